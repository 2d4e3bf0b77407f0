/- The reference's lexer, Next: digits (wip/gen/gen_r7.py prints this). · The reference's lexer, Next: marks, operators (wip/gen/gen_r7.py prints this). · The reference's lexer: Next, from place 0, whatever stands there. · The reference's lexer: Arity. · The reference's lexer, Spell: words, numbers, texts (wip/gen/gen_rspell.py prints this). · The reference's lexer, Spell: symbols and what is always the same (wip/gen/gen_rspell.py prints this). · The reference's lexer, Spell: marks (wip/gen/gen_rspell.py prints this). · The reference's lexer, Spell: whole (wip/gen/gen_rspell.py prints this). -/
import Derived.Test.YtpfaldcfnhjlgaaGreatDoorRX1
import Derived.Test.YtpfaldcfnhjlgaaGreatDoorLxSpq
import Derived.Test.YtpfaldcfnhjlgaaGreatDoorLxSp
set_option linter.unusedVariables false
namespace Go.Proofs.YtpfaldcfnhjlgaaGreatDoor
open Go.RowKit
namespace Lx
variable {s : ByteArray} {p : Nat} {w : World}
set_option maxRecDepth 100000 in
set_option maxHeartbeats 3200000 in
theorem rnext_digits (hs : s.size ≤ 140737488355327) (hk : sk none 0 s.data.toList = .ok p) (hp2 : p ≤ s.size) (hlt : p < s.size) (hl : letter s[p] = false) (hdg : digit s[p] = true) :
    Calls Tryz.prog 18 #[.string s, .int .i64 0] w (Nexted p (tokR (s.data.toList.drop p)) w) := by
  have hr : s.data.toList.drop p = s[p] :: s.data.toList.drop (p + 1) := drop_cons s p hlt
  have hE0 : tokR (s.data.toList.drop p) = if Sm.pe ((s.data.toList.drop p).takeWhile digit) = 0 then .ok (⟨3, [], Sm.pv ((s.data.toList.drop p).takeWhile digit), 0⟩, ((s.data.toList.drop p).takeWhile digit).length) else .error (0, Sm.pe ((s.data.toList.drop p).takeWhile digit)) := by
    rw [hr]; simp only [tokR, tokC, hl, hdg, Bool.false_eq_true, if_false, if_true]
  have H2 := tw_fit digit s p hp2
  have H3 := fun (k : Nat) (h : k < s.size) (h1 : p ≤ k) (h2 : k < p + ((s.data.toList.drop p).takeWhile digit).length) => tw_in digit s p k h h1 h2
  have H4 := fun (h : p + ((s.data.toList.drop p).takeWhile digit).length < s.size) => tw_out digit s p h
  have hxw := ext_word s p ((s.data.toList.drop p).takeWhile digit).length H2
  have htk : (s.data.toList.drop p).take ((s.data.toList.drop p).takeWhile digit).length = (s.data.toList.drop p).takeWhile digit := (List.prefix_iff_eq_take.1 (List.takeWhile_prefix _)).symm
  rw [htk] at hxw
  clear htk hr
  obtain ⟨ds, hds⟩ : ∃ ds, (s.data.toList.drop p).takeWhile digit = ds := ⟨_, rfl⟩
  rw [hds] at H2 H3 H4 hxw hE0
  clear hds
  obtain ⟨x, hx⟩ : ∃ x, s.extract p (p + ds.length) = x := ⟨_, rfl⟩
  rw [hx] at hxw
  have hxs : x.size ≤ 1152921504606846976 := by rw [← hx, ByteArray.size_extract]; omega
  have HP0 := fun v : World => rparse_any x v hxs
  have hxl : x.data.toList = ds := by rw [hxw]
  rw [hxl] at HP0
  clear hxl hxw hxs
  obtain ⟨pe, hpe⟩ : ∃ n, Sm.pe ds = n := ⟨_, rfl⟩
  obtain ⟨pv, hpv⟩ : ∃ n, Sm.pv ds = n := ⟨_, rfl⟩
  rw [hpe, hpv] at HP0 hE0
  rw [hE0]
  clear hE0 hpe hpv
  obtain ⟨n, hn⟩ : ∃ n, ds.length = n := ⟨_, rfl⟩
  rw [hn] at H2 H3 H4 hx ⊢
  clear hn
  obtain ⟨z, hz⟩ : ∃ z, p + n = z := ⟨_, rfl⟩
  rw [hz] at H2 H3 H4 hx
  have hz1 : p ≤ z := by omega
  have HZ := Lib.hid hz
  clear hz
  have HP := Lib.hid HP0
  have G3 := Lib.hid H3
  have G4 := Lib.hid H4
  clear HP0 H3 H4
  have hpi : (p : Int) < (s.size : Int) := by omega
  have hpe : ((p : Int) == (s.size : Int)) = false := by rw [beq_eq_false_iff_ne]; omega
  obtain ⟨c, hc⟩ : ∃ c, s[p] = c := ⟨_, rfl⟩
  rw [hc] at hl hdg
  by_cases h0 : pe = 0
  · subst h0
    rw [if_pos rfl]
    have HSK := fun v : World => rskip_any (s := s) (at_ := 0) (w := v) (by omega) (Nat.zero_le _)
    rw [List.drop_zero, hk] at HSK
    have HSK := Lib.hid HSK
    have hsz0 : ¬ (s.size : Int) < 0 := by omega
    clear hk
    go_enter Tryz.func18, Tryz.ntmps18
    go_wp2_with fail
    refine (HSK.out _).mono ?_; rintro e w' ⟨rfl, rfl⟩
    go_wp2_with fail
    refine (rletter_any c _).mono ?_; rintro e w' ⟨rfl, rfl⟩
    rw [hl]
    go_wp2_with fail
    refine (rdigit_any c _).mono ?_; rintro e w' ⟨rfl, rfl⟩
    rw [hdg]
    go_wp2_with fail
    go_loop [11] (fun y => ∃ k : Nat, y = .int .i64 (k : Int) ∧ p ≤ k ∧ k ≤ z) (fun y => s.size - (intOf y).toNat)
    case atStart => exact ⟨p, rfl, Nat.le_refl _, hz1⟩
    case round =>
      obtain ⟨k, rfl, hk1, hk2⟩ := hrel
      clear hc hl hdg hpi hpe hlt
      by_cases hks : k < s.size
      · have hki : (k : Int) < (s.size : Int) := by omega
        have hkw : IntKind.i64.wrap ((k : Int) + 1) = (k : Int) + 1 := IntWalk.i64_in _ (by have := HZ.out; omega)
        by_cases hkz : k < z
        · have hd1 := G3.out k hks hk1 hkz
          go_wp2_with fail
          refine (rdigit_any _ _).mono ?_; rintro e w' ⟨rfl, rfl⟩
          rw [hd1]
          go_wp2_with fail
          exact ⟨⟨k + 1, vint (by omega), by omega, by omega⟩, by simp only [intOf]; omega⟩
        · obtain rfl : k = z := by omega
          have hd1 := G4.out hks
          have hz2 : (p : Int) ≤ (k : Int) := by omega
          have hz3 : (k : Int) ≤ (s.size : Int) := by omega
          have HK := Lib.hid HZ.out
          go_wp2_with fail
          refine (rdigit_any _ _).mono ?_; rintro e w' ⟨rfl, rfl⟩
          rw [hd1]
          go_wp2_with fail
          refine (HP.out _).mono ?_; rintro e w' ⟨rfl, rfl⟩
          go_wp2_with fail
          refine bodyPost_ret (v := .tuple #[.agg #[.int .i64 3, .string ⟨#[]⟩, .int .i64 pv, .int .i64 (p : Int)], .int .i64 ((k : Int)), .int .i64 0]) (by simp [results, Tryz.results18, go_sem]) rfl ?_
          exact nexted_ok (((Below.refl _ _).alloc (Nat.le_refl _) _).alloc (by simp) _) (by simp [tokV]) (by have := HZ.out; omega)
      · have hki : ¬ (k : Int) < (s.size : Int) := by omega
        obtain rfl : k = z := by omega
        have hz2 : (p : Int) ≤ (k : Int) := by omega
        have hz3 : (k : Int) ≤ (s.size : Int) := by omega
        go_wp2_with fail
        refine (HP.out _).mono ?_; rintro e w' ⟨rfl, rfl⟩
        go_wp2_with fail
        refine bodyPost_ret (v := .tuple #[.agg #[.int .i64 3, .string ⟨#[]⟩, .int .i64 pv, .int .i64 (p : Int)], .int .i64 ((k : Int)), .int .i64 0]) (by simp [results, Tryz.results18, go_sem]) rfl ?_
        exact nexted_ok (((Below.refl _ _).alloc (Nat.le_refl _) _).alloc (by simp) _) (by simp [tokV]) (by have := HZ.out; omega)
  · rw [if_neg h0]
    have hb0 : (pe == 0) = false := by simpa using h0
    have hb1 : (pe != 0) = true := by simpa using h0
    have HSK := fun v : World => rskip_any (s := s) (at_ := 0) (w := v) (by omega) (Nat.zero_le _)
    rw [List.drop_zero, hk] at HSK
    have HSK := Lib.hid HSK
    have hsz0 : ¬ (s.size : Int) < 0 := by omega
    clear hk
    go_enter Tryz.func18, Tryz.ntmps18
    go_wp2_with fail
    refine (HSK.out _).mono ?_; rintro e w' ⟨rfl, rfl⟩
    go_wp2_with fail
    refine (rletter_any c _).mono ?_; rintro e w' ⟨rfl, rfl⟩
    rw [hl]
    go_wp2_with fail
    refine (rdigit_any c _).mono ?_; rintro e w' ⟨rfl, rfl⟩
    rw [hdg]
    go_wp2_with fail
    go_loop [11] (fun y => ∃ k : Nat, y = .int .i64 (k : Int) ∧ p ≤ k ∧ k ≤ z) (fun y => s.size - (intOf y).toNat)
    case atStart => exact ⟨p, rfl, Nat.le_refl _, hz1⟩
    case round =>
      obtain ⟨k, rfl, hk1, hk2⟩ := hrel
      clear hc hl hdg hpi hpe hlt
      by_cases hks : k < s.size
      · have hki : (k : Int) < (s.size : Int) := by omega
        have hkw : IntKind.i64.wrap ((k : Int) + 1) = (k : Int) + 1 := IntWalk.i64_in _ (by have := HZ.out; omega)
        by_cases hkz : k < z
        · have hd1 := G3.out k hks hk1 hkz
          go_wp2_with fail
          refine (rdigit_any _ _).mono ?_; rintro e w' ⟨rfl, rfl⟩
          rw [hd1]
          go_wp2_with fail
          exact ⟨⟨k + 1, vint (by omega), by omega, by omega⟩, by simp only [intOf]; omega⟩
        · obtain rfl : k = z := by omega
          have hd1 := G4.out hks
          have hz2 : (p : Int) ≤ (k : Int) := by omega
          have hz3 : (k : Int) ≤ (s.size : Int) := by omega
          have HK := Lib.hid HZ.out
          go_wp2_with fail
          refine (rdigit_any _ _).mono ?_; rintro e w' ⟨rfl, rfl⟩
          rw [hd1]
          go_wp2_with fail
          refine (HP.out _).mono ?_; rintro e w' ⟨rfl, rfl⟩
          go_wp2_with fail
          refine bodyPost_ret (v := .tuple #[.agg #[.int .i64 0, .string ⟨#[]⟩, .int .i64 0, .int .i64 0], .int .i64 ((p : Int)), .int .i64 pe]) (by simp [results, Tryz.results18, go_sem]) rfl ?_
          exact nexted_err (((Below.refl _ _).alloc (Nat.le_refl _) _).alloc (by simp) _) (by simp [tokV]) (by have := HZ.out; omega)
      · have hki : ¬ (k : Int) < (s.size : Int) := by omega
        obtain rfl : k = z := by omega
        have hz2 : (p : Int) ≤ (k : Int) := by omega
        have hz3 : (k : Int) ≤ (s.size : Int) := by omega
        go_wp2_with fail
        refine (HP.out _).mono ?_; rintro e w' ⟨rfl, rfl⟩
        go_wp2_with fail
        refine bodyPost_ret (v := .tuple #[.agg #[.int .i64 0, .string ⟨#[]⟩, .int .i64 0, .int .i64 0], .int .i64 ((p : Int)), .int .i64 pe]) (by simp [results, Tryz.results18, go_sem]) rfl ?_
        exact nexted_err (((Below.refl _ _).alloc (Nat.le_refl _) _).alloc (by simp) _) (by simp [tokV]) (by have := HZ.out; omega)
end Lx
end Go.Proofs.YtpfaldcfnhjlgaaGreatDoor
namespace Go.Proofs.YtpfaldcfnhjlgaaGreatDoor
open Go.RowKit
namespace Lx
variable {s : ByteArray} {p : Nat} {w : World}
theorem marks_no {c : UInt8} (h : sgl c = none) (k : Nat) (hk : k < (⟨#[94, 46, 59, 40, 41, 91, 93]⟩ : ByteArray).size) : (⟨#[94, 46, 59, 40, 41, 91, 93]⟩ : ByteArray)[k] ≠ c := by
  intro e
  have hm : c ∈ singleL := by rw [← e]; exact List.getElem_mem (l := singleL) hk
  unfold sgl at h
  exact List.idxOf?_eq_none_iff.1 h hm
theorem marks_some {c : UInt8} {i : Nat} (h : sgl c = some i) (hi : i ≤ 6) (k : Nat) (hk : k < (⟨#[94, 46, 59, 40, 41, 91, 93]⟩ : ByteArray).size) : (⟨#[94, 46, 59, 40, 41, 91, 93]⟩ : ByteArray)[k] = c ↔ k = i := by
  have e : singleL.getD i 0 = c := by have := (sgl_get h).2.1; simpa using this
  rw [← e]
  have hk7 : k < 7 := hk
  have H : ∀ (a b : Fin 7), singleL[a.val]'a.isLt = singleL.getD b.val 0 ↔ a.val = b.val := by decide
  exact H ⟨k, hk7⟩ ⟨i, by omega⟩
set_option maxRecDepth 100000 in
set_option maxHeartbeats 3200000 in
theorem rnext_mark (hs : s.size ≤ 140737488355327) (hk : sk none 0 s.data.toList = .ok p) (hp2 : p ≤ s.size) (hlt : p < s.size) (hl : letter s[p] = false) (hdg : digit s[p] = false) (h36 : s[p] ≠ 36) (h39 : s[p] ≠ 39) (h35 : s[p] ≠ 35) (h58 : s[p] ≠ 58) {i : Nat} (hi : sgl s[p] = some i) (hi6 : i ≤ 6) :
    Calls Tryz.prog 18 #[.string s, .int .i64 0] w (Nexted p (tokR (s.data.toList.drop p)) w) := by
  have hr : s.data.toList.drop p = s[p] :: s.data.toList.drop (p + 1) := drop_cons s p hlt
  have hE : tokR (s.data.toList.drop p) = .ok (⟨8 + i, [], 0, 0⟩, 1) := by rw [hr]; simp only [tokR, tokC, hl, hdg, hi, if_neg h36, if_neg h39, if_neg h35, if_neg h58, Bool.false_eq_true, if_false]
  rw [hE]
  have hs1 : IntKind.i64.wrap ((p : Int) + 1) = (p : Int) + 1 := IntWalk.i64_in _ (by omega)
  have hpi : (p : Int) < (s.size : Int) := by omega
  have hpe : ((p : Int) == (s.size : Int)) = false := by rw [beq_eq_false_iff_ne]; omega
  obtain ⟨c, hc⟩ : ∃ c, s[p] = c := ⟨_, rfl⟩
  rw [hc] at hl hdg h36 h39 h35 h58 hi
  have n36 : ((c.toNat : Int) == 36) = false := bne_u8 _ 36 (by omega) h36
  have n39 : ((c.toNat : Int) == 39) = false := bne_u8 _ 39 (by omega) h39
  have n35 : ((c.toNat : Int) == 35) = false := bne_u8 _ 35 (by omega) h35
  have n58 : ((c.toNat : Int) == 58) = false := bne_u8 _ 58 (by omega) h58
  have hMk := marks_some hi hi6
  have hMs : ((⟨#[94, 46, 59, 40, 41, 91, 93]⟩ : ByteArray).size : Int) = 7 := rfl
  clear hE hr h36 h39 h35 h58 hi
  have HSK := fun v : World => rskip_any (s := s) (at_ := 0) (w := v) (by omega) (Nat.zero_le _)
  rw [List.drop_zero, hk] at HSK
  have HSK := Lib.hid HSK
  have hsz0 : ¬ (s.size : Int) < 0 := by omega
  clear hk
  go_enter Tryz.func18, Tryz.ntmps18
  go_wp2_with fail
  refine (HSK.out _).mono ?_; rintro e w' ⟨rfl, rfl⟩
  go_wp2_with fail
  refine (rletter_any c _).mono ?_; rintro e w' ⟨rfl, rfl⟩
  rw [hl]
  go_wp2_with fail
  refine (rdigit_any c _).mono ?_; rintro e w' ⟨rfl, rfl⟩
  rw [hdg]
  go_wp2_with fail
  obtain ⟨M, hM⟩ : ∃ M, (⟨#[94, 46, 59, 40, 41, 91, 93]⟩ : ByteArray) = M := ⟨_, rfl⟩
  rw [hM] at hMs hMk ⊢
  have HMk := Lib.hid hMk
  clear hM hMk
  go_loop [18] (fun y => ∃ k : Nat, y = .int .i64 (k : Int) ∧ k ≤ i) (fun y => 7 - (intOf y).toNat)
  case atStart => exact ⟨0, rfl, by omega⟩
  case round =>
    obtain ⟨k, rfl, hki⟩ := hrel
    clear hc hl hdg hpi hpe hlt
    have hkm : k < M.size := by omega
    have hkm2 : (k : Int) < (M.size : Int) := by omega
    have hkw : IntKind.i64.wrap ((k : Int) + 1) = (k : Int) + 1 := IntWalk.i64_in _ (by omega)
    have hk8 : IntKind.i64.wrap (8 + (k : Int)) = 8 + (k : Int) := IntWalk.i64_in _ (by omega)
    by_cases hkz : k = i
    · have hd0 : M[k] = c := (HMk.out k hkm).2 hkz
      have hd1 : ((M[k].toNat : Int) == (c.toNat : Int)) = true := by rw [hd0]; simp
      clear hd0
      subst hkz
      go_wp2_with fail
      refine bodyPost_ret (v := .tuple #[.agg #[.int .i64 (8 + (k : Int)), .string ⟨#[]⟩, .int .i64 0, .int .i64 (p : Int)], .int .i64 ((p : Int) + 1), .int .i64 0]) (by simp [results, Tryz.results18, go_sem]) rfl ?_
      exact nexted_ok (((Below.refl _ _).alloc (Nat.le_refl _) _).alloc (by simp) _) (by simp [tokV]) (by omega)
    · have hd0 : M[k] ≠ c := fun e => hkz ((HMk.out k hkm).1 e)
      have hd1 : ((M[k].toNat : Int) == (c.toNat : Int)) = false := by
        rw [beq_eq_false_iff_ne]; intro e; exact hd0 (UInt8.toNat_inj.1 (by omega))
      clear hd0
      go_wp2_with fail
      exact ⟨⟨k + 1, vint (by omega), by omega⟩, by simp only [intOf]; omega⟩
set_option maxRecDepth 100000 in
set_option maxHeartbeats 3200000 in
theorem rnext_oper (hs : s.size ≤ 140737488355327) (hk : sk none 0 s.data.toList = .ok p) (hp2 : p ≤ s.size) (hlt : p < s.size) (hl : letter s[p] = false) (hdg : digit s[p] = false) (h36 : s[p] ≠ 36) (h39 : s[p] ≠ 39) (h35 : s[p] ≠ 35) (h58 : s[p] ≠ 58) (hi : sgl s[p] = none) :
    Calls Tryz.prog 18 #[.string s, .int .i64 0] w (Nexted p (tokR (s.data.toList.drop p)) w) := by
  have hr : s.data.toList.drop p = s[p] :: s.data.toList.drop (p + 1) := drop_cons s p hlt
  have hE : tokR (s.data.toList.drop p) = if operL (s.data.toList.drop p) = 0 then .error (0, 3) else .ok (⟨6, (s.data.toList.drop p).take (operL (s.data.toList.drop p)), 0, 0⟩, operL (s.data.toList.drop p)) := by rw [hr]; simp only [tokR, tokC, hl, hdg, hi, if_neg h36, if_neg h39, if_neg h35, if_neg h58, Bool.false_eq_true, if_false]
  have hHO := fun v : World => roper_any (s := s) (at_ := p) (w := v) (by omega) hp2
  have hle := operL_le (s.data.toList.drop p)
  rw [dlen] at hle
  rw [hE]
  obtain ⟨q, hq⟩ : ∃ q, operL (s.data.toList.drop p) = q := ⟨_, rfl⟩
  rw [hq] at hHO hle ⊢
  have hpi : (p : Int) < (s.size : Int) := by omega
  have hpe : ((p : Int) == (s.size : Int)) = false := by rw [beq_eq_false_iff_ne]; omega
  obtain ⟨c, hc⟩ : ∃ c, s[p] = c := ⟨_, rfl⟩
  rw [hc] at hl hdg h36 h39 h35 h58 hi
  have n36 : ((c.toNat : Int) == 36) = false := bne_u8 _ 36 (by omega) h36
  have n39 : ((c.toNat : Int) == 39) = false := bne_u8 _ 39 (by omega) h39
  have n35 : ((c.toNat : Int) == 35) = false := bne_u8 _ 35 (by omega) h35
  have n58 : ((c.toNat : Int) == 58) = false := bne_u8 _ 58 (by omega) h58
  have hMk := marks_no hi
  have hMs : ((⟨#[94, 46, 59, 40, 41, 91, 93]⟩ : ByteArray).size : Int) = 7 := rfl
  clear hE hr h36 h39 h35 h58 hi hq
  by_cases h0 : q = 0
  · subst h0
    rw [if_pos rfl]
    have hHO : ∀ v : World, Calls Tryz.prog 31 #[.string s, .int .i64 (p : Int)] v (Done (.int .i64 (p : Int)) v) := hHO
    have HO := Lib.hid hHO
    clear hHO hle
    have HSK := fun v : World => rskip_any (s := s) (at_ := 0) (w := v) (by omega) (Nat.zero_le _)
    rw [List.drop_zero, hk] at HSK
    have HSK := Lib.hid HSK
    have hsz0 : ¬ (s.size : Int) < 0 := by omega
    clear hk
    go_enter Tryz.func18, Tryz.ntmps18
    go_wp2_with fail
    refine (HSK.out _).mono ?_; rintro e w' ⟨rfl, rfl⟩
    go_wp2_with fail
    refine (rletter_any c _).mono ?_; rintro e w' ⟨rfl, rfl⟩
    rw [hl]
    go_wp2_with fail
    refine (rdigit_any c _).mono ?_; rintro e w' ⟨rfl, rfl⟩
    rw [hdg]
    go_wp2_with fail
    obtain ⟨M, hM⟩ : ∃ M, (⟨#[94, 46, 59, 40, 41, 91, 93]⟩ : ByteArray) = M := ⟨_, rfl⟩
    rw [hM] at hMs hMk ⊢
    have HMk := Lib.hid hMk
    clear hM hMk
    go_loop [18] (fun y => ∃ k : Nat, y = .int .i64 (k : Int) ∧ k ≤ 7) (fun y => 7 - (intOf y).toNat)
    case atStart => exact ⟨0, rfl, by omega⟩
    case round =>
      obtain ⟨k, rfl, hki⟩ := hrel
      clear hc hl hdg hpi hpe hlt
      by_cases hkz : k = 7
      · have hkm : ¬ (k : Int) < (M.size : Int) := by omega
        clear hMs hkz
        go_wp2_with fail
        refine (HO.out _).mono ?_; rintro e w' ⟨rfl, rfl⟩
        go_wp2_with fail
        refine bodyPost_ret (v := .tuple #[.agg #[.int .i64 0, .string ⟨#[]⟩, .int .i64 0, .int .i64 0], .int .i64 ((p : Int)), .int .i64 3]) (by simp [results, Tryz.results18, go_sem]) rfl ?_
        exact nexted_err (((Below.refl _ _).alloc (Nat.le_refl _) _).alloc (by simp) _) (by simp [tokV]) (by omega)
      · have hkm : k < M.size := by omega
        have hkm2 : (k : Int) < (M.size : Int) := by omega
        have hkw : IntKind.i64.wrap ((k : Int) + 1) = (k : Int) + 1 := IntWalk.i64_in _ (by omega)
        have hd0 : M[k] ≠ c := HMk.out k hkm
        have hd1 : ((M[k].toNat : Int) == (c.toNat : Int)) = false := by
          rw [beq_eq_false_iff_ne]; intro e; exact hd0 (UInt8.toNat_inj.1 (by omega))
        clear hd0
        go_wp2_with fail
        exact ⟨⟨k + 1, vint (by omega), by omega⟩, by simp only [intOf]; omega⟩
  · rw [if_neg h0]
    have hpq : p + q ≤ s.size := by omega
    have hxw := ext_word s p q hpq
    obtain ⟨z, hz⟩ : ∃ z, p + q = z := ⟨_, rfl⟩
    rw [hz] at hHO hxw
    obtain ⟨x, hx⟩ : ∃ x, s.extract p z = x := ⟨_, rfl⟩
    rw [hx] at hxw
    have HXW := Lib.hid hxw
    have HO := Lib.hid hHO
    have hzb : ((z : Int) == (p : Int)) = false := by rw [beq_eq_false_iff_ne]; omega
    have hz1 : (p : Int) ≤ (z : Int) := by omega
    have hz2 : (z : Int) ≤ (s.size : Int) := by omega
    have hz3 : p ≤ z := by omega
    have hz4 : z ≤ s.size := by omega
    clear hHO hxw hle h0
    have HSK := fun v : World => rskip_any (s := s) (at_ := 0) (w := v) (by omega) (Nat.zero_le _)
    rw [List.drop_zero, hk] at HSK
    have HSK := Lib.hid HSK
    have hsz0 : ¬ (s.size : Int) < 0 := by omega
    clear hk
    go_enter Tryz.func18, Tryz.ntmps18
    go_wp2_with fail
    refine (HSK.out _).mono ?_; rintro e w' ⟨rfl, rfl⟩
    go_wp2_with fail
    refine (rletter_any c _).mono ?_; rintro e w' ⟨rfl, rfl⟩
    rw [hl]
    go_wp2_with fail
    refine (rdigit_any c _).mono ?_; rintro e w' ⟨rfl, rfl⟩
    rw [hdg]
    go_wp2_with fail
    obtain ⟨M, hM⟩ : ∃ M, (⟨#[94, 46, 59, 40, 41, 91, 93]⟩ : ByteArray) = M := ⟨_, rfl⟩
    rw [hM] at hMs hMk ⊢
    have HMk := Lib.hid hMk
    clear hM hMk
    go_loop [18] (fun y => ∃ k : Nat, y = .int .i64 (k : Int) ∧ k ≤ 7) (fun y => 7 - (intOf y).toNat)
    case atStart => exact ⟨0, rfl, by omega⟩
    case round =>
      obtain ⟨k, rfl, hki⟩ := hrel
      clear hc hl hdg hpi hpe hlt
      by_cases hkz : k = 7
      · have hkm : ¬ (k : Int) < (M.size : Int) := by omega
        clear hMs hkz
        go_wp2_with fail
        refine (HO.out _).mono ?_; rintro e w' ⟨rfl, rfl⟩
        go_wp2_with fail
        refine bodyPost_ret (v := .tuple #[.agg #[.int .i64 6, .string x, .int .i64 0, .int .i64 (p : Int)], .int .i64 ((z : Int)), .int .i64 0]) (by simp [results, Tryz.results18, go_sem]) rfl ?_
        exact nexted_ok (((Below.refl _ _).alloc (Nat.le_refl _) _).alloc (by simp) _) (by rw [HXW.out]; simp [tokV]) (by omega)
      · have hkm : k < M.size := by omega
        have hkm2 : (k : Int) < (M.size : Int) := by omega
        have hkw : IntKind.i64.wrap ((k : Int) + 1) = (k : Int) + 1 := IntWalk.i64_in _ (by omega)
        have hd0 : M[k] ≠ c := HMk.out k hkm
        have hd1 : ((M[k].toNat : Int) == (c.toNat : Int)) = false := by
          rw [beq_eq_false_iff_ne]; intro e; exact hd0 (UInt8.toNat_inj.1 (by omega))
        clear hd0
        go_wp2_with fail
        exact ⟨⟨k + 1, vint (by omega), by omega⟩, by simp only [intOf]; omega⟩
end Lx
end Go.Proofs.YtpfaldcfnhjlgaaGreatDoor
namespace Go.Proofs.YtpfaldcfnhjlgaaGreatDoor
open Go.RowKit
namespace Lx
variable {s : ByteArray} {p : Nat} {w : World}
theorem rnext_tok (hs : s.size ≤ 140737488355327) (hk : sk none 0 s.data.toList = .ok p) (hp2 : p ≤ s.size) :
    Calls Tryz.prog 18 #[.string s, .int .i64 0] w (Nexted p (tokR (s.data.toList.drop p)) w) := by
  rcases Nat.lt_or_ge p s.size with hlt | hge
  · cases hl : letter s[p]
    · cases hdg : digit s[p]
      · by_cases h36 : s[p] = 36
        · by_cases h1 : p + 1 = s.size
          · exact rnext_dollar_end hs hk hp2 hlt h36 h1
          · exact rnext_dollar hs hk hp2 hlt h36 (by omega)
        by_cases h39 : s[p] = 39
        · exact rnext_text hs hk hp2 hlt h39
        by_cases h35 : s[p] = 35
        · exact rnext_hash hs hk hp2 hlt h35
        by_cases h58 : s[p] = 58
        · by_cases h61 : hd (s.data.toList.drop (p + 1)) 0 = 61
          · rcases Nat.lt_or_ge (p + 1) s.size with h1 | h1
            · exact rnext_assign hs hk hp2 hlt h58 h1 (by rw [← hd_drop s (p + 1) 0 h1]; exact h61)
            · rw [List.drop_eq_nil_of_le (show s.data.toList.length ≤ p + 1 from h1)] at h61
              exact absurd h61 (by decide)
          · exact rnext_colon hs hk hp2 hlt h58 h61
        cases hi : sgl s[p] with
        | some i => exact rnext_mark hs hk hp2 hlt hl hdg h36 h39 h35 h58 hi (sgl_get hi).1
        | none => exact rnext_oper hs hk hp2 hlt hl hdg h36 h39 h35 h58 hi
      · exact rnext_digits hs hk hp2 hlt hl hdg
    · by_cases hkw : kw1 (s.data.toList.drop p) = 0
      · exact rnext_name hs hk hp2 hlt hl hkw
      · exact rnext_keyword hs hk hp2 hlt hl hkw
  · exact rnext_end hs hk hp2 (by omega)
theorem rnext_any (hs : s.size ≤ 140737488355327) :
    Calls Tryz.prog 18 #[.string s, .int .i64 0] w (Nexted 0 (nextR s.data.toList) w) := by
  unfold nextR
  cases hk : sk none 0 s.data.toList with
  | error st => exact rnext_note hs hk
  | ok k =>
    have hle := (sk_le _ _ _ _ hk).2
    have h := rnext_tok (w := w) hs hk (by have : s.data.toList.length = s.size := rfl; omega)
    simp only
    cases hE : tokR (s.data.toList.drop k) with
    | error x =>
      obtain ⟨q, n⟩ := x
      rw [hE] at h
      refine h.mono fun e w' hh => ?_
      obtain ⟨h1, h2⟩ := hh
      exact ⟨h1, by rw [h2]; simp⟩
    | ok y =>
      obtain ⟨t, n⟩ := y
      rw [hE] at h
      refine h.mono fun e w' hh => ?_
      obtain ⟨h1, h2⟩ := hh
      exact ⟨h1, by rw [h2]; simp [tokV]⟩
end Lx
end Go.Proofs.YtpfaldcfnhjlgaaGreatDoor
namespace Go.Proofs.YtpfaldcfnhjlgaaGreatDoor
open Go.RowKit
namespace Lx
variable {s : ByteArray} {w : World}
theorem count_step (s : ByteArray) (k : Nat) (h : k < s.size) : Lib.countByte (s.data.toList.take (k + 1)) 58 = Lib.countByte (s.data.toList.take k) 58 + (if s[k] = 58 then 1 else 0) := by
  have hk : k < s.data.toList.length := h
  have hg : s.data.toList[k] = s[k] := rfl
  rw [List.take_succ_eq_append_getElem hk]
  unfold Lib.countByte
  rw [List.count_append, hg, List.count_singleton]
  by_cases e : s[k] = 58
  · simp [e]
  · simp [e]
set_option maxRecDepth 100000 in
set_option maxHeartbeats 3200000 in
theorem rarity_any (hs : s.size ≤ 140737488355327) :
    Calls Tryz.prog 17 #[.string s] w (Done (.int .i64 (arityP s.data.toList)) w) := by
  have hE0 : arityP s.data.toList = if s.data.toList = [] then (-1 : Int) else if 64 < s.data.toList.length then (-1 : Int) else if kwL s.data.toList = s.data.toList.length then ((Lib.countByte s.data.toList 58 : Nat) : Int) else if nameL s.data.toList = s.data.toList.length then 0 else if operL s.data.toList = s.data.toList.length then 1 else (-1 : Int) := rfl
  have hl : s.data.toList.length = s.size := rfl
  rw [hl] at hE0
  have hHK := fun v : World => rkeywords_any (s := s) (at_ := 0) (w := v) (by omega) (Nat.zero_le _)
  have hHN := fun v : World => rname_any (s := s) (at_ := 0) (w := v) (by omega) (Nat.zero_le _)
  have hHO := fun v : World => roper_any (s := s) (at_ := 0) (w := v) (by omega) (Nat.zero_le _)
  rw [List.drop_zero, Nat.zero_add] at hHK hHN hHO
  have HK := Lib.hid hHK
  have HN := Lib.hid hHN
  have HO := Lib.hid hHO
  clear hHK hHN hHO
  obtain ⟨A, hA⟩ : ∃ A, arityP s.data.toList = A := ⟨_, rfl⟩
  rw [hA] at hE0 ⊢
  clear hA
  by_cases h0 : s.data.toList = []
  · rw [if_pos h0] at hE0
    have hz : s.size = 0 := by rw [← hl, h0]; rfl
    have hzi : (s.size : Int) = 0 := by omega
    subst hE0
    have hzb : ((s.size : Int) == 0) = true := by rw [hzi]; rfl
    clear h0 hl hz hzi
    go_enter Tryz.func17, Tryz.ntmps17
    go_wp2_with fail
    go_ret
    exact ⟨rfl, rfl⟩
  rw [if_neg h0] at hE0
  have hp : 0 < s.size := by rw [← hl]; exact List.length_pos_iff.2 h0
  have hzb : ((s.size : Int) == 0) = false := by rw [beq_eq_false_iff_ne]; omega
  clear h0 hl
  by_cases h64 : 64 < s.size
  · rw [if_pos h64] at hE0
    subst hE0
    have h64i : (64 : Int) < (s.size : Int) := by omega
    go_enter Tryz.func17, Tryz.ntmps17
    go_wp2_with fail
    go_ret
    exact ⟨rfl, rfl⟩
  rw [if_neg h64] at hE0
  have h64i : ¬ (64 : Int) < (s.size : Int) := by omega
  by_cases hk : kwL s.data.toList = s.size
  · rw [if_pos hk] at hE0
    rw [hk] at HK
    have HE := Lib.hid hE0
    clear hE0 hk
    go_enter Tryz.func17, Tryz.ntmps17
    go_wp2_with fail
    refine (HK.out _).mono ?_; rintro e w' ⟨rfl, rfl⟩
    go_wp2_with fail
    go_loop [3, 4] (fun m y => ∃ k : Nat, y = .int .i64 (k : Int) ∧ k ≤ s.size ∧ m = .int .i64 (Lib.countByte (s.data.toList.take k) 58 : Nat)) (fun _ y => s.size - (intOf y).toNat)
    case atStart => exact ⟨0, rfl, Nat.zero_le _, rfl⟩
    case round =>
      obtain ⟨k, rfl, hk1, hm⟩ := hrel
      clear hzb h64 h64i hp
      by_cases hks : k < s.size
      · have hki : (k : Int) < (s.size : Int) := by omega
        have hkw : IntKind.i64.wrap ((k : Int) + 1) = (k : Int) + 1 := IntWalk.i64_in _ (by omega)
        have hst := count_step s k hks
        have hcl : Lib.countByte (s.data.toList.take k) 58 ≤ k := by
          have h1 := List.count_le_length (a := (58 : UInt8)) (l := s.data.toList.take k)
          have h2 := List.length_take_le k s.data.toList
          unfold Lib.countByte; omega
        obtain ⟨N, hN⟩ : ∃ N, Lib.countByte (s.data.toList.take k) 58 = N := ⟨_, rfl⟩
        rw [hN] at hst hm hcl
        have hNw : IntKind.i64.wrap ((N : Int) + 1) = (N : Int) + 1 := IntWalk.i64_in _ (by omega)
        subst hm
        clear hN
        by_cases h58 : s[k] = 58
        · have hb : ((s[k].toNat : Int) == 58) = true := by rw [h58]; rfl
          rw [if_pos h58] at hst
          have HS := Lib.hid hst
          clear h58 hst
          go_wp2_with fail
          exact ⟨⟨k + 1, vint (by omega), by omega, vint (by rw [HS.out]; omega)⟩, by simp only [intOf]; omega⟩
        · have hb : ((s[k].toNat : Int) == 58) = false := bne_u8 _ 58 (by omega) h58
          rw [if_neg h58] at hst
          have HS := Lib.hid hst
          clear h58 hst
          go_wp2_with fail
          exact ⟨⟨k + 1, vint (by omega), by omega, vint (by rw [HS.out]; omega)⟩, by simp only [intOf]; omega⟩
      · have hki : ¬ (k : Int) < (s.size : Int) := by omega
        have htk : s.data.toList.take k = s.data.toList := List.take_of_length_le (show s.data.toList.length ≤ k by have : s.data.toList.length = s.size := rfl; omega)
        rw [htk, ← HE.out] at hm
        subst hm
        clear htk
        go_wp2_with fail
        go_ret
        exact ⟨rfl, rfl⟩
  rw [if_neg hk] at hE0
  have hkb : (((kwL s.data.toList : Nat) : Int) == (s.size : Int)) = false := by rw [beq_eq_false_iff_ne]; omega
  clear hk
  by_cases hn : nameL s.data.toList = s.size
  · rw [if_pos hn] at hE0
    have hnb : (((nameL s.data.toList : Nat) : Int) == (s.size : Int)) = true := by rw [beq_iff_eq]; omega
    subst hE0
    go_enter Tryz.func17, Tryz.ntmps17
    go_wp2_with fail
    refine (HK.out _).mono ?_; rintro e w' ⟨rfl, rfl⟩
    go_wp2_with fail
    refine (HN.out _).mono ?_; rintro e w' ⟨rfl, rfl⟩
    go_wp2_with fail
    go_ret
    exact ⟨rfl, rfl⟩
  rw [if_neg hn] at hE0
  have hnb : (((nameL s.data.toList : Nat) : Int) == (s.size : Int)) = false := by rw [beq_eq_false_iff_ne]; omega
  clear hn
  by_cases ho : operL s.data.toList = s.size
  · rw [if_pos ho] at hE0
    have hob : (((operL s.data.toList : Nat) : Int) == (s.size : Int)) = true := by rw [beq_iff_eq]; omega
    subst hE0
    go_enter Tryz.func17, Tryz.ntmps17
    go_wp2_with fail
    refine (HK.out _).mono ?_; rintro e w' ⟨rfl, rfl⟩
    go_wp2_with fail
    refine (HN.out _).mono ?_; rintro e w' ⟨rfl, rfl⟩
    go_wp2_with fail
    refine (HO.out _).mono ?_; rintro e w' ⟨rfl, rfl⟩
    go_wp2_with fail
    go_ret
    exact ⟨rfl, rfl⟩
  · rw [if_neg ho] at hE0
    have hob : (((operL s.data.toList : Nat) : Int) == (s.size : Int)) = false := by rw [beq_eq_false_iff_ne]; omega
    subst hE0
    go_enter Tryz.func17, Tryz.ntmps17
    go_wp2_with fail
    refine (HK.out _).mono ?_; rintro e w' ⟨rfl, rfl⟩
    go_wp2_with fail
    refine (HN.out _).mono ?_; rintro e w' ⟨rfl, rfl⟩
    go_wp2_with fail
    refine (HO.out _).mono ?_; rintro e w' ⟨rfl, rfl⟩
    go_wp2_with fail
    go_ret
    exact ⟨rfl, rfl⟩
end Lx
end Go.Proofs.YtpfaldcfnhjlgaaGreatDoor
namespace Go.Proofs.YtpfaldcfnhjlgaaGreatDoor
open Go.RowKit
namespace Lx
variable {k n a : Int} {wd : ByteArray} {w : World}
/-- What the reference's Spell hands back. -/
def RSpelt (S : Bytes) (B : Bool) (w : World) (e : Ending) (w' : World) : Prop := Below w.heap.size w w' ∧ e = .returned (.tuple #[.string ⟨S.toArray⟩, .bool B])
set_option maxRecDepth 100000 in
set_option maxHeartbeats 3200000 in
theorem rspell_word1 (hk : -9223372036854775808 ≤ k ∧ k ≤ 9223372036854775807) (h0 : -9223372036854775808 ≤ n) (h1 : n ≤ 9223372036854775807) (hs : wd.size ≤ 35184372088832) (h : k = 1) :
    Calls Tryz.prog 10 #[.agg #[.int .i64 k, .string wd, .int .i64 n, .int .i64 a]] w (RSpelt (spelledL k wd.data.toList n) (spellB (spelledL k wd.data.toList n) k wd.data.toList n) w) := by
  have hlen := sp_len k n wd.data.toList h0 h1
  have hwl : wd.data.toList.length = wd.size := rfl
  have hSp : spelledL k wd.data.toList n = wd.data.toList := by unfold spelledL; rw [if_pos (by omega)]
  obtain ⟨S, hS⟩ : ∃ S, spelledL k wd.data.toList n = S := ⟨_, rfl⟩
  rw [hS] at hlen hSp ⊢
  obtain ⟨B, hB⟩ : ∃ B, spellB S k wd.data.toList n = B := ⟨_, rfl⟩
  rw [hB]
  have hBB := hB
  unfold spellB at hBB
  obtain ⟨V, hSS⟩ : ∃ V : ByteArray, (⟨S.toArray⟩ : ByteArray) = V := ⟨_, rfl⟩
  have hsz : V.size = S.length := by rw [← hSS]; simp [ByteArray.size]
  have hSl : V.data.toList = S := by rw [← hSS]
  have hN := fun v : World => rnext_any (s := V) (w := v) (by omega)
  rw [hSl] at hN
  obtain ⟨x, hx⟩ : ∃ x, nextR S = x := ⟨_, rfl⟩
  have herr := fun p n => nextR_err S p n
  rw [hx] at hN hBB herr
  have hVd : wd = V := by rw [← hSS, hSp]
  subst hVd
  have HN := Lib.hid hN
  have HBB := Lib.hid hBB
  have HSS := Lib.hid hSS
  have HSZ := Lib.hid hsz
  have n1 : (k == 1) = true := by rw [h]; rfl
  have n2 : (k == 2) = false := by rw [beq_eq_false_iff_ne]; omega
  have n3 : (k == 3) = false := by rw [beq_eq_false_iff_ne]; omega
  have n4 : (k == 4) = false := by rw [beq_eq_false_iff_ne]; omega
  have n5 : (k == 5) = false := by rw [beq_eq_false_iff_ne]; omega
  have n6 : (k == 6) = false := by rw [beq_eq_false_iff_ne]; omega
  have n7 : (k == 7) = false := by rw [beq_eq_false_iff_ne]; omega
  have n8 : (k == 8) = false := by rw [beq_eq_false_iff_ne]; omega
  have n9 : (k == 9) = false := by rw [beq_eq_false_iff_ne]; omega
  have n10 : (k == 10) = false := by rw [beq_eq_false_iff_ne]; omega
  have n11 : (k == 11) = false := by rw [beq_eq_false_iff_ne]; omega
  have n12 : (k == 12) = false := by rw [beq_eq_false_iff_ne]; omega
  have n13 : (k == 13) = false := by rw [beq_eq_false_iff_ne]; omega
  have n14 : (k == 14) = false := by rw [beq_eq_false_iff_ne]; omega
  have n15 : (k == 15) = false := by rw [beq_eq_false_iff_ne]; omega
  have n16 : (k == 16) = false := by rw [beq_eq_false_iff_ne]; omega
  clear hN hBB hB hx hSl hS hSS hSp hwl hlen hsz h
  cases x with
  | error y =>
    obtain ⟨p, m⟩ := y
    have hm0 := herr p m rfl
    have hmb : (m == 0) = false := by simpa using hm0
    have hBf : B = false := HBB.out.symm
    subst hBf
    clear herr hm0
    go_enter Tryz.func10, Tryz.ntmps10
    go_wp2_with fail
    refine (HN.out _).mono ?_; rintro e w4 ⟨hb4, rfl⟩
    have hT : Tk R9 w.heap.size k wd n 0 w4 := (hb4.block _ (by simp)).trans (Tk.made w)
    have hz4 : w.heap.size < w4.heap.size := Nat.lt_of_lt_of_le (by simp) hb4.size
    have hb4 : Below w.heap.size w w4 := ((Below.refl _ _).alloc (Nat.le_refl _) _).trans (hb4.mono (by simp))
    have g0 := hT.c0
    have g1 := hT.c1
    have g2 := hT.c2
    have g3 := hT.c3
    have gf := hT.fz
    rw [show tokV 0 ⟨0, [], 0, 0⟩ = .agg #[.int .i64 0, .string ⟨#[]⟩, .int .i64 0, .int .i64 0] from rfl]
    go_wp2_with fail
    go_ret2
    exact ⟨hb4.alloc (Nat.le_of_lt hz4) _, by rw [HSS.out]; rfl⟩
  | ok y =>
    obtain ⟨t, m⟩ := y
    clear herr
    obtain ⟨kd, wd', nn, aa, hV, hq⟩ : ∃ (kd : Int) (wd' : ByteArray) (nn aa : Int), tokV 0 t = .agg #[.int .i64 kd, .string wd', .int .i64 nn, .int .i64 aa] ∧ (kd = (t.kind : Int) ∧ wd' = ⟨t.word.toArray⟩ ∧ nn = t.num ∧ aa = ((0 + t.at_ : Nat) : Int)) := ⟨_, _, _, _, rfl, rfl, rfl, rfl, rfl⟩
    have HQ := Lib.hid hq
    have HVV := Lib.hid hV
    clear hq hV
    by_cases hP : kd = k ∧ wd' = wd ∧ nn = n ∧ aa = 0 ∧ (m : Int) = (wd.size : Int)
    · have hBt : B = true := by
        rw [← HBB.out]
        obtain ⟨q1, q2, q3, q4⟩ := HQ.out
        obtain ⟨p1, p2, p3, p4, p5⟩ := hP
        have e1 : (t.kind : Int) = k := by rw [← q1]; exact p1
        have e2 : t.word = wd.data.toList := by rw [← p2, q2]
        have e3 : t.num = n := by rw [← q3]; exact p3
        have e4 : t.at_ = 0 := by omega
        have e5 : m = S.length := by have := HSZ.out; omega
        simp [e1, e2, e3, e4, e5]
      subst hBt
      obtain ⟨p1, p2, p3, rfl, p5⟩ := hP
      have p1 : (kd == k) = true := by rw [p1]; simp
      have p2 : (wd'.toList == wd.toList) = true := by rw [p2]; simp
      have p3 : (nn == n) = true := by rw [p3]; simp
      have p5b : ((m : Int) == (wd.size : Int)) = true := by rw [p5]; simp
      clear p5
      go_enter Tryz.func10, Tryz.ntmps10
      go_wp2_with fail
      refine (HN.out _).mono ?_; rintro e w4 ⟨hb4, rfl⟩
      have hT : Tk R9 w.heap.size k wd n 0 w4 := (hb4.block _ (by simp)).trans (Tk.made w)
      have hz4 : w.heap.size < w4.heap.size := Nat.lt_of_lt_of_le (by simp) hb4.size
      have hb4 : Below w.heap.size w w4 := ((Below.refl _ _).alloc (Nat.le_refl _) _).trans (hb4.mono (by simp))
      have g0 := hT.c0
      have g1 := hT.c1
      have g2 := hT.c2
      have g3 := hT.c3
      have gf := hT.fz
      rw [HVV.out]
      go_wp2_with fail
      go_ret2
      exact ⟨hb4.alloc (Nat.le_of_lt hz4) _, by rw [HSS.out]; rfl⟩
    · have hBf : B = false := by
        cases B
        · rfl
        · exfalso
          have hb := HBB.out
          simp only [Bool.and_eq_true, decide_eq_true_eq] at hb
          obtain ⟨⟨⟨⟨b1, b2⟩, b3⟩, b4⟩, b5⟩ := hb
          obtain ⟨q1, q2, q3, q4⟩ := HQ.out
          refine hP ⟨q1.trans b1, ?_, q3.trans b3, by omega, by have := HSZ.out; omega⟩
          rw [q2, b2]
      subst hBf
      have HNP := Lib.hid hP
      clear hP
      go_enter Tryz.func10, Tryz.ntmps10
      go_wp2_with fail
      refine (HN.out _).mono ?_; rintro e w4 ⟨hb4, rfl⟩
      have hT : Tk R9 w.heap.size k wd n 0 w4 := (hb4.block _ (by simp)).trans (Tk.made w)
      have hz4 : w.heap.size < w4.heap.size := Nat.lt_of_lt_of_le (by simp) hb4.size
      have hb4 : Below w.heap.size w w4 := ((Below.refl _ _).alloc (Nat.le_refl _) _).trans (hb4.mono (by simp))
      have g0 := hT.c0
      have g1 := hT.c1
      have g2 := hT.c2
      have g3 := hT.c3
      have gf := hT.fz
      rw [HVV.out]
      go_wp2_with fail
      all_goals first
        | (go_ret2; exact ⟨hb4.alloc (Nat.le_of_lt hz4) _, by rw [HSS.out]; rfl⟩)
        | (have hF : ((m : Int) == (wd.size : Int)) = false := by
            rw [beq_eq_false_iff_ne]; intro hme
            exact HNP.out ⟨by assumption, bytes_inj (by assumption), by assumption, by assumption, hme⟩
           go_ret2
           exact ⟨hb4.alloc (Nat.le_of_lt hz4) _, by rw [HSS.out]; exact ret2 rfl (congrArg Value.bool hF)⟩)
set_option maxRecDepth 100000 in
set_option maxHeartbeats 3200000 in
theorem rspell_word2 (hk : -9223372036854775808 ≤ k ∧ k ≤ 9223372036854775807) (h0 : -9223372036854775808 ≤ n) (h1 : n ≤ 9223372036854775807) (hs : wd.size ≤ 35184372088832) (h : k = 2) :
    Calls Tryz.prog 10 #[.agg #[.int .i64 k, .string wd, .int .i64 n, .int .i64 a]] w (RSpelt (spelledL k wd.data.toList n) (spellB (spelledL k wd.data.toList n) k wd.data.toList n) w) := by
  have hlen := sp_len k n wd.data.toList h0 h1
  have hwl : wd.data.toList.length = wd.size := rfl
  have hSp : spelledL k wd.data.toList n = wd.data.toList := by unfold spelledL; rw [if_pos (by omega)]
  obtain ⟨S, hS⟩ : ∃ S, spelledL k wd.data.toList n = S := ⟨_, rfl⟩
  rw [hS] at hlen hSp ⊢
  obtain ⟨B, hB⟩ : ∃ B, spellB S k wd.data.toList n = B := ⟨_, rfl⟩
  rw [hB]
  have hBB := hB
  unfold spellB at hBB
  obtain ⟨V, hSS⟩ : ∃ V : ByteArray, (⟨S.toArray⟩ : ByteArray) = V := ⟨_, rfl⟩
  have hsz : V.size = S.length := by rw [← hSS]; simp [ByteArray.size]
  have hSl : V.data.toList = S := by rw [← hSS]
  have hN := fun v : World => rnext_any (s := V) (w := v) (by omega)
  rw [hSl] at hN
  obtain ⟨x, hx⟩ : ∃ x, nextR S = x := ⟨_, rfl⟩
  have herr := fun p n => nextR_err S p n
  rw [hx] at hN hBB herr
  have hVd : wd = V := by rw [← hSS, hSp]
  subst hVd
  have HN := Lib.hid hN
  have HBB := Lib.hid hBB
  have HSS := Lib.hid hSS
  have HSZ := Lib.hid hsz
  have n1 : (k == 1) = false := by rw [beq_eq_false_iff_ne]; omega
  have n2 : (k == 2) = true := by rw [h]; rfl
  have n3 : (k == 3) = false := by rw [beq_eq_false_iff_ne]; omega
  have n4 : (k == 4) = false := by rw [beq_eq_false_iff_ne]; omega
  have n5 : (k == 5) = false := by rw [beq_eq_false_iff_ne]; omega
  have n6 : (k == 6) = false := by rw [beq_eq_false_iff_ne]; omega
  have n7 : (k == 7) = false := by rw [beq_eq_false_iff_ne]; omega
  have n8 : (k == 8) = false := by rw [beq_eq_false_iff_ne]; omega
  have n9 : (k == 9) = false := by rw [beq_eq_false_iff_ne]; omega
  have n10 : (k == 10) = false := by rw [beq_eq_false_iff_ne]; omega
  have n11 : (k == 11) = false := by rw [beq_eq_false_iff_ne]; omega
  have n12 : (k == 12) = false := by rw [beq_eq_false_iff_ne]; omega
  have n13 : (k == 13) = false := by rw [beq_eq_false_iff_ne]; omega
  have n14 : (k == 14) = false := by rw [beq_eq_false_iff_ne]; omega
  have n15 : (k == 15) = false := by rw [beq_eq_false_iff_ne]; omega
  have n16 : (k == 16) = false := by rw [beq_eq_false_iff_ne]; omega
  clear hN hBB hB hx hSl hS hSS hSp hwl hlen hsz h
  cases x with
  | error y =>
    obtain ⟨p, m⟩ := y
    have hm0 := herr p m rfl
    have hmb : (m == 0) = false := by simpa using hm0
    have hBf : B = false := HBB.out.symm
    subst hBf
    clear herr hm0
    go_enter Tryz.func10, Tryz.ntmps10
    go_wp2_with fail
    refine (HN.out _).mono ?_; rintro e w4 ⟨hb4, rfl⟩
    have hT : Tk R9 w.heap.size k wd n 0 w4 := (hb4.block _ (by simp)).trans (Tk.made w)
    have hz4 : w.heap.size < w4.heap.size := Nat.lt_of_lt_of_le (by simp) hb4.size
    have hb4 : Below w.heap.size w w4 := ((Below.refl _ _).alloc (Nat.le_refl _) _).trans (hb4.mono (by simp))
    have g0 := hT.c0
    have g1 := hT.c1
    have g2 := hT.c2
    have g3 := hT.c3
    have gf := hT.fz
    rw [show tokV 0 ⟨0, [], 0, 0⟩ = .agg #[.int .i64 0, .string ⟨#[]⟩, .int .i64 0, .int .i64 0] from rfl]
    go_wp2_with fail
    go_ret2
    exact ⟨hb4.alloc (Nat.le_of_lt hz4) _, by rw [HSS.out]; rfl⟩
  | ok y =>
    obtain ⟨t, m⟩ := y
    clear herr
    obtain ⟨kd, wd', nn, aa, hV, hq⟩ : ∃ (kd : Int) (wd' : ByteArray) (nn aa : Int), tokV 0 t = .agg #[.int .i64 kd, .string wd', .int .i64 nn, .int .i64 aa] ∧ (kd = (t.kind : Int) ∧ wd' = ⟨t.word.toArray⟩ ∧ nn = t.num ∧ aa = ((0 + t.at_ : Nat) : Int)) := ⟨_, _, _, _, rfl, rfl, rfl, rfl, rfl⟩
    have HQ := Lib.hid hq
    have HVV := Lib.hid hV
    clear hq hV
    by_cases hP : kd = k ∧ wd' = wd ∧ nn = n ∧ aa = 0 ∧ (m : Int) = (wd.size : Int)
    · have hBt : B = true := by
        rw [← HBB.out]
        obtain ⟨q1, q2, q3, q4⟩ := HQ.out
        obtain ⟨p1, p2, p3, p4, p5⟩ := hP
        have e1 : (t.kind : Int) = k := by rw [← q1]; exact p1
        have e2 : t.word = wd.data.toList := by rw [← p2, q2]
        have e3 : t.num = n := by rw [← q3]; exact p3
        have e4 : t.at_ = 0 := by omega
        have e5 : m = S.length := by have := HSZ.out; omega
        simp [e1, e2, e3, e4, e5]
      subst hBt
      obtain ⟨p1, p2, p3, rfl, p5⟩ := hP
      have p1 : (kd == k) = true := by rw [p1]; simp
      have p2 : (wd'.toList == wd.toList) = true := by rw [p2]; simp
      have p3 : (nn == n) = true := by rw [p3]; simp
      have p5b : ((m : Int) == (wd.size : Int)) = true := by rw [p5]; simp
      clear p5
      go_enter Tryz.func10, Tryz.ntmps10
      go_wp2_with fail
      refine (HN.out _).mono ?_; rintro e w4 ⟨hb4, rfl⟩
      have hT : Tk R9 w.heap.size k wd n 0 w4 := (hb4.block _ (by simp)).trans (Tk.made w)
      have hz4 : w.heap.size < w4.heap.size := Nat.lt_of_lt_of_le (by simp) hb4.size
      have hb4 : Below w.heap.size w w4 := ((Below.refl _ _).alloc (Nat.le_refl _) _).trans (hb4.mono (by simp))
      have g0 := hT.c0
      have g1 := hT.c1
      have g2 := hT.c2
      have g3 := hT.c3
      have gf := hT.fz
      rw [HVV.out]
      go_wp2_with fail
      go_ret2
      exact ⟨hb4.alloc (Nat.le_of_lt hz4) _, by rw [HSS.out]; rfl⟩
    · have hBf : B = false := by
        cases B
        · rfl
        · exfalso
          have hb := HBB.out
          simp only [Bool.and_eq_true, decide_eq_true_eq] at hb
          obtain ⟨⟨⟨⟨b1, b2⟩, b3⟩, b4⟩, b5⟩ := hb
          obtain ⟨q1, q2, q3, q4⟩ := HQ.out
          refine hP ⟨q1.trans b1, ?_, q3.trans b3, by omega, by have := HSZ.out; omega⟩
          rw [q2, b2]
      subst hBf
      have HNP := Lib.hid hP
      clear hP
      go_enter Tryz.func10, Tryz.ntmps10
      go_wp2_with fail
      refine (HN.out _).mono ?_; rintro e w4 ⟨hb4, rfl⟩
      have hT : Tk R9 w.heap.size k wd n 0 w4 := (hb4.block _ (by simp)).trans (Tk.made w)
      have hz4 : w.heap.size < w4.heap.size := Nat.lt_of_lt_of_le (by simp) hb4.size
      have hb4 : Below w.heap.size w w4 := ((Below.refl _ _).alloc (Nat.le_refl _) _).trans (hb4.mono (by simp))
      have g0 := hT.c0
      have g1 := hT.c1
      have g2 := hT.c2
      have g3 := hT.c3
      have gf := hT.fz
      rw [HVV.out]
      go_wp2_with fail
      all_goals first
        | (go_ret2; exact ⟨hb4.alloc (Nat.le_of_lt hz4) _, by rw [HSS.out]; rfl⟩)
        | (have hF : ((m : Int) == (wd.size : Int)) = false := by
            rw [beq_eq_false_iff_ne]; intro hme
            exact HNP.out ⟨by assumption, bytes_inj (by assumption), by assumption, by assumption, hme⟩
           go_ret2
           exact ⟨hb4.alloc (Nat.le_of_lt hz4) _, by rw [HSS.out]; exact ret2 rfl (congrArg Value.bool hF)⟩)
set_option maxRecDepth 100000 in
set_option maxHeartbeats 3200000 in
theorem rspell_word6 (hk : -9223372036854775808 ≤ k ∧ k ≤ 9223372036854775807) (h0 : -9223372036854775808 ≤ n) (h1 : n ≤ 9223372036854775807) (hs : wd.size ≤ 35184372088832) (h : k = 6) :
    Calls Tryz.prog 10 #[.agg #[.int .i64 k, .string wd, .int .i64 n, .int .i64 a]] w (RSpelt (spelledL k wd.data.toList n) (spellB (spelledL k wd.data.toList n) k wd.data.toList n) w) := by
  have hlen := sp_len k n wd.data.toList h0 h1
  have hwl : wd.data.toList.length = wd.size := rfl
  have hSp : spelledL k wd.data.toList n = wd.data.toList := by unfold spelledL; rw [if_pos (by omega)]
  obtain ⟨S, hS⟩ : ∃ S, spelledL k wd.data.toList n = S := ⟨_, rfl⟩
  rw [hS] at hlen hSp ⊢
  obtain ⟨B, hB⟩ : ∃ B, spellB S k wd.data.toList n = B := ⟨_, rfl⟩
  rw [hB]
  have hBB := hB
  unfold spellB at hBB
  obtain ⟨V, hSS⟩ : ∃ V : ByteArray, (⟨S.toArray⟩ : ByteArray) = V := ⟨_, rfl⟩
  have hsz : V.size = S.length := by rw [← hSS]; simp [ByteArray.size]
  have hSl : V.data.toList = S := by rw [← hSS]
  have hN := fun v : World => rnext_any (s := V) (w := v) (by omega)
  rw [hSl] at hN
  obtain ⟨x, hx⟩ : ∃ x, nextR S = x := ⟨_, rfl⟩
  have herr := fun p n => nextR_err S p n
  rw [hx] at hN hBB herr
  have hVd : wd = V := by rw [← hSS, hSp]
  subst hVd
  have HN := Lib.hid hN
  have HBB := Lib.hid hBB
  have HSS := Lib.hid hSS
  have HSZ := Lib.hid hsz
  have n1 : (k == 1) = false := by rw [beq_eq_false_iff_ne]; omega
  have n2 : (k == 2) = false := by rw [beq_eq_false_iff_ne]; omega
  have n3 : (k == 3) = false := by rw [beq_eq_false_iff_ne]; omega
  have n4 : (k == 4) = false := by rw [beq_eq_false_iff_ne]; omega
  have n5 : (k == 5) = false := by rw [beq_eq_false_iff_ne]; omega
  have n6 : (k == 6) = true := by rw [h]; rfl
  have n7 : (k == 7) = false := by rw [beq_eq_false_iff_ne]; omega
  have n8 : (k == 8) = false := by rw [beq_eq_false_iff_ne]; omega
  have n9 : (k == 9) = false := by rw [beq_eq_false_iff_ne]; omega
  have n10 : (k == 10) = false := by rw [beq_eq_false_iff_ne]; omega
  have n11 : (k == 11) = false := by rw [beq_eq_false_iff_ne]; omega
  have n12 : (k == 12) = false := by rw [beq_eq_false_iff_ne]; omega
  have n13 : (k == 13) = false := by rw [beq_eq_false_iff_ne]; omega
  have n14 : (k == 14) = false := by rw [beq_eq_false_iff_ne]; omega
  have n15 : (k == 15) = false := by rw [beq_eq_false_iff_ne]; omega
  have n16 : (k == 16) = false := by rw [beq_eq_false_iff_ne]; omega
  clear hN hBB hB hx hSl hS hSS hSp hwl hlen hsz h
  cases x with
  | error y =>
    obtain ⟨p, m⟩ := y
    have hm0 := herr p m rfl
    have hmb : (m == 0) = false := by simpa using hm0
    have hBf : B = false := HBB.out.symm
    subst hBf
    clear herr hm0
    go_enter Tryz.func10, Tryz.ntmps10
    go_wp2_with fail
    refine (HN.out _).mono ?_; rintro e w4 ⟨hb4, rfl⟩
    have hT : Tk R9 w.heap.size k wd n 0 w4 := (hb4.block _ (by simp)).trans (Tk.made w)
    have hz4 : w.heap.size < w4.heap.size := Nat.lt_of_lt_of_le (by simp) hb4.size
    have hb4 : Below w.heap.size w w4 := ((Below.refl _ _).alloc (Nat.le_refl _) _).trans (hb4.mono (by simp))
    have g0 := hT.c0
    have g1 := hT.c1
    have g2 := hT.c2
    have g3 := hT.c3
    have gf := hT.fz
    rw [show tokV 0 ⟨0, [], 0, 0⟩ = .agg #[.int .i64 0, .string ⟨#[]⟩, .int .i64 0, .int .i64 0] from rfl]
    go_wp2_with fail
    go_ret2
    exact ⟨hb4.alloc (Nat.le_of_lt hz4) _, by rw [HSS.out]; rfl⟩
  | ok y =>
    obtain ⟨t, m⟩ := y
    clear herr
    obtain ⟨kd, wd', nn, aa, hV, hq⟩ : ∃ (kd : Int) (wd' : ByteArray) (nn aa : Int), tokV 0 t = .agg #[.int .i64 kd, .string wd', .int .i64 nn, .int .i64 aa] ∧ (kd = (t.kind : Int) ∧ wd' = ⟨t.word.toArray⟩ ∧ nn = t.num ∧ aa = ((0 + t.at_ : Nat) : Int)) := ⟨_, _, _, _, rfl, rfl, rfl, rfl, rfl⟩
    have HQ := Lib.hid hq
    have HVV := Lib.hid hV
    clear hq hV
    by_cases hP : kd = k ∧ wd' = wd ∧ nn = n ∧ aa = 0 ∧ (m : Int) = (wd.size : Int)
    · have hBt : B = true := by
        rw [← HBB.out]
        obtain ⟨q1, q2, q3, q4⟩ := HQ.out
        obtain ⟨p1, p2, p3, p4, p5⟩ := hP
        have e1 : (t.kind : Int) = k := by rw [← q1]; exact p1
        have e2 : t.word = wd.data.toList := by rw [← p2, q2]
        have e3 : t.num = n := by rw [← q3]; exact p3
        have e4 : t.at_ = 0 := by omega
        have e5 : m = S.length := by have := HSZ.out; omega
        simp [e1, e2, e3, e4, e5]
      subst hBt
      obtain ⟨p1, p2, p3, rfl, p5⟩ := hP
      have p1 : (kd == k) = true := by rw [p1]; simp
      have p2 : (wd'.toList == wd.toList) = true := by rw [p2]; simp
      have p3 : (nn == n) = true := by rw [p3]; simp
      have p5b : ((m : Int) == (wd.size : Int)) = true := by rw [p5]; simp
      clear p5
      go_enter Tryz.func10, Tryz.ntmps10
      go_wp2_with fail
      refine (HN.out _).mono ?_; rintro e w4 ⟨hb4, rfl⟩
      have hT : Tk R9 w.heap.size k wd n 0 w4 := (hb4.block _ (by simp)).trans (Tk.made w)
      have hz4 : w.heap.size < w4.heap.size := Nat.lt_of_lt_of_le (by simp) hb4.size
      have hb4 : Below w.heap.size w w4 := ((Below.refl _ _).alloc (Nat.le_refl _) _).trans (hb4.mono (by simp))
      have g0 := hT.c0
      have g1 := hT.c1
      have g2 := hT.c2
      have g3 := hT.c3
      have gf := hT.fz
      rw [HVV.out]
      go_wp2_with fail
      go_ret2
      exact ⟨hb4.alloc (Nat.le_of_lt hz4) _, by rw [HSS.out]; rfl⟩
    · have hBf : B = false := by
        cases B
        · rfl
        · exfalso
          have hb := HBB.out
          simp only [Bool.and_eq_true, decide_eq_true_eq] at hb
          obtain ⟨⟨⟨⟨b1, b2⟩, b3⟩, b4⟩, b5⟩ := hb
          obtain ⟨q1, q2, q3, q4⟩ := HQ.out
          refine hP ⟨q1.trans b1, ?_, q3.trans b3, by omega, by have := HSZ.out; omega⟩
          rw [q2, b2]
      subst hBf
      have HNP := Lib.hid hP
      clear hP
      go_enter Tryz.func10, Tryz.ntmps10
      go_wp2_with fail
      refine (HN.out _).mono ?_; rintro e w4 ⟨hb4, rfl⟩
      have hT : Tk R9 w.heap.size k wd n 0 w4 := (hb4.block _ (by simp)).trans (Tk.made w)
      have hz4 : w.heap.size < w4.heap.size := Nat.lt_of_lt_of_le (by simp) hb4.size
      have hb4 : Below w.heap.size w w4 := ((Below.refl _ _).alloc (Nat.le_refl _) _).trans (hb4.mono (by simp))
      have g0 := hT.c0
      have g1 := hT.c1
      have g2 := hT.c2
      have g3 := hT.c3
      have gf := hT.fz
      rw [HVV.out]
      go_wp2_with fail
      all_goals first
        | (go_ret2; exact ⟨hb4.alloc (Nat.le_of_lt hz4) _, by rw [HSS.out]; rfl⟩)
        | (have hF : ((m : Int) == (wd.size : Int)) = false := by
            rw [beq_eq_false_iff_ne]; intro hme
            exact HNP.out ⟨by assumption, bytes_inj (by assumption), by assumption, by assumption, hme⟩
           go_ret2
           exact ⟨hb4.alloc (Nat.le_of_lt hz4) _, by rw [HSS.out]; exact ret2 rfl (congrArg Value.bool hF)⟩)
set_option maxRecDepth 100000 in
set_option maxHeartbeats 3200000 in
theorem rspell_num (hk : -9223372036854775808 ≤ k ∧ k ≤ 9223372036854775807) (h0 : -9223372036854775808 ≤ n) (h1 : n ≤ 9223372036854775807) (hs : wd.size ≤ 35184372088832) (h : k = 3) :
    Calls Tryz.prog 10 #[.agg #[.int .i64 k, .string wd, .int .i64 n, .int .i64 a]] w (RSpelt (spelledL k wd.data.toList n) (spellB (spelledL k wd.data.toList n) k wd.data.toList n) w) := by
  have hlen := sp_len k n wd.data.toList h0 h1
  have hwl : wd.data.toList.length = wd.size := rfl
  have hSp : spelledL k wd.data.toList n = Lib.itoa n := by unfold spelledL; rw [if_neg (by omega), if_pos h]
  obtain ⟨S, hS⟩ : ∃ S, spelledL k wd.data.toList n = S := ⟨_, rfl⟩
  rw [hS] at hlen hSp ⊢
  obtain ⟨B, hB⟩ : ∃ B, spellB S k wd.data.toList n = B := ⟨_, rfl⟩
  rw [hB]
  have hBB := hB
  unfold spellB at hBB
  obtain ⟨V, hSS⟩ : ∃ V : ByteArray, (⟨S.toArray⟩ : ByteArray) = V := ⟨_, rfl⟩
  have hsz : V.size = S.length := by rw [← hSS]; simp [ByteArray.size]
  have hSl : V.data.toList = S := by rw [← hSS]
  have hN := fun v : World => rnext_any (s := V) (w := v) (by omega)
  rw [hSl] at hN
  obtain ⟨x, hx⟩ : ∃ x, nextR S = x := ⟨_, rfl⟩
  have herr := fun p n => nextR_err S p n
  rw [hx] at hN hBB herr
  have hVd : (⟨(Lib.itoa n).toArray⟩ : ByteArray) = V := by rw [← hSS, hSp]
  have hC := fun v : World => Rt.rtext_any n v h0 h1
  rw [hVd] at hC
  have HC := Lib.hid hC
  clear hC hVd
  have HN := Lib.hid hN
  have HBB := Lib.hid hBB
  have HSS := Lib.hid hSS
  have HSZ := Lib.hid hsz
  have n1 : (k == 1) = false := by rw [beq_eq_false_iff_ne]; omega
  have n2 : (k == 2) = false := by rw [beq_eq_false_iff_ne]; omega
  have n3 : (k == 3) = true := by rw [h]; rfl
  have n4 : (k == 4) = false := by rw [beq_eq_false_iff_ne]; omega
  have n5 : (k == 5) = false := by rw [beq_eq_false_iff_ne]; omega
  have n6 : (k == 6) = false := by rw [beq_eq_false_iff_ne]; omega
  have n7 : (k == 7) = false := by rw [beq_eq_false_iff_ne]; omega
  have n8 : (k == 8) = false := by rw [beq_eq_false_iff_ne]; omega
  have n9 : (k == 9) = false := by rw [beq_eq_false_iff_ne]; omega
  have n10 : (k == 10) = false := by rw [beq_eq_false_iff_ne]; omega
  have n11 : (k == 11) = false := by rw [beq_eq_false_iff_ne]; omega
  have n12 : (k == 12) = false := by rw [beq_eq_false_iff_ne]; omega
  have n13 : (k == 13) = false := by rw [beq_eq_false_iff_ne]; omega
  have n14 : (k == 14) = false := by rw [beq_eq_false_iff_ne]; omega
  have n15 : (k == 15) = false := by rw [beq_eq_false_iff_ne]; omega
  have n16 : (k == 16) = false := by rw [beq_eq_false_iff_ne]; omega
  clear hN hBB hB hx hSl hS hSS hSp hwl hlen hsz h
  cases x with
  | error y =>
    obtain ⟨p, m⟩ := y
    have hm0 := herr p m rfl
    have hmb : (m == 0) = false := by simpa using hm0
    have hBf : B = false := HBB.out.symm
    subst hBf
    clear herr hm0
    go_enter Tryz.func10, Tryz.ntmps10
    go_wp2_with fail
    refine (HC.out _).mono ?_; rintro e w2 ⟨rfl, hb2⟩
    have hT2 : Tk R9 w.heap.size k wd n a w2 := (hb2.block _ (by simp)).trans (Tk.made w)
    have q3 := hT2.c3
    have qf := hT2.fz
    clear hT2
    go_wp2_with fail
    refine (HN.out _).mono ?_; rintro e w4 ⟨hb4, rfl⟩
    have hT : Tk R9 w.heap.size k wd n 0 w4 := (hb4.block _ (by have := hb2.size; simp [World.setCell] at this ⊢; omega)).trans (Tk.set3 ((hb2.block _ (by simp)).trans (Tk.made w)) 0)
    have hz4 : w.heap.size < w4.heap.size := Nat.lt_of_lt_of_le (by have := hb2.size; simp [World.setCell] at this ⊢; omega) hb4.size
    have hb4 : Below w.heap.size w w4 := (Below.setCell (p := ⟨w.heap.size, 3, none⟩) (((Below.refl _ _).alloc (Nat.le_refl _) _).trans (hb2.mono (by simp))) (Nat.le_refl _) (.int .i64 0)).trans (hb4.mono (by have := hb2.size; simp [World.setCell] at this ⊢; omega))
    have g0 := hT.c0
    have g1 := hT.c1
    have g2 := hT.c2
    have g3 := hT.c3
    have gf := hT.fz
    rw [show tokV 0 ⟨0, [], 0, 0⟩ = .agg #[.int .i64 0, .string ⟨#[]⟩, .int .i64 0, .int .i64 0] from rfl]
    go_wp2_with fail
    go_ret2
    exact ⟨hb4.alloc (Nat.le_of_lt hz4) _, by rw [HSS.out]; rfl⟩
  | ok y =>
    obtain ⟨t, m⟩ := y
    clear herr
    obtain ⟨kd, wd', nn, aa, hV, hq⟩ : ∃ (kd : Int) (wd' : ByteArray) (nn aa : Int), tokV 0 t = .agg #[.int .i64 kd, .string wd', .int .i64 nn, .int .i64 aa] ∧ (kd = (t.kind : Int) ∧ wd' = ⟨t.word.toArray⟩ ∧ nn = t.num ∧ aa = ((0 + t.at_ : Nat) : Int)) := ⟨_, _, _, _, rfl, rfl, rfl, rfl, rfl⟩
    have HQ := Lib.hid hq
    have HVV := Lib.hid hV
    clear hq hV
    by_cases hP : kd = k ∧ wd' = wd ∧ nn = n ∧ aa = 0 ∧ (m : Int) = (V.size : Int)
    · have hBt : B = true := by
        rw [← HBB.out]
        obtain ⟨q1, q2, q3, q4⟩ := HQ.out
        obtain ⟨p1, p2, p3, p4, p5⟩ := hP
        have e1 : (t.kind : Int) = k := by rw [← q1]; exact p1
        have e2 : t.word = wd.data.toList := by rw [← p2, q2]
        have e3 : t.num = n := by rw [← q3]; exact p3
        have e4 : t.at_ = 0 := by omega
        have e5 : m = S.length := by have := HSZ.out; omega
        simp [e1, e2, e3, e4, e5]
      subst hBt
      obtain ⟨p1, p2, p3, rfl, p5⟩ := hP
      have p1 : (kd == k) = true := by rw [p1]; simp
      have p2 : (wd'.toList == wd.toList) = true := by rw [p2]; simp
      have p3 : (nn == n) = true := by rw [p3]; simp
      have p5b : ((m : Int) == (V.size : Int)) = true := by rw [p5]; simp
      clear p5
      go_enter Tryz.func10, Tryz.ntmps10
      go_wp2_with fail
      refine (HC.out _).mono ?_; rintro e w2 ⟨rfl, hb2⟩
      have hT2 : Tk R9 w.heap.size k wd n a w2 := (hb2.block _ (by simp)).trans (Tk.made w)
      have q3 := hT2.c3
      have qf := hT2.fz
      clear hT2
      go_wp2_with fail
      refine (HN.out _).mono ?_; rintro e w4 ⟨hb4, rfl⟩
      have hT : Tk R9 w.heap.size k wd n 0 w4 := (hb4.block _ (by have := hb2.size; simp [World.setCell] at this ⊢; omega)).trans (Tk.set3 ((hb2.block _ (by simp)).trans (Tk.made w)) 0)
      have hz4 : w.heap.size < w4.heap.size := Nat.lt_of_lt_of_le (by have := hb2.size; simp [World.setCell] at this ⊢; omega) hb4.size
      have hb4 : Below w.heap.size w w4 := (Below.setCell (p := ⟨w.heap.size, 3, none⟩) (((Below.refl _ _).alloc (Nat.le_refl _) _).trans (hb2.mono (by simp))) (Nat.le_refl _) (.int .i64 0)).trans (hb4.mono (by have := hb2.size; simp [World.setCell] at this ⊢; omega))
      have g0 := hT.c0
      have g1 := hT.c1
      have g2 := hT.c2
      have g3 := hT.c3
      have gf := hT.fz
      rw [HVV.out]
      go_wp2_with fail
      go_ret2
      exact ⟨hb4.alloc (Nat.le_of_lt hz4) _, by rw [HSS.out]; rfl⟩
    · have hBf : B = false := by
        cases B
        · rfl
        · exfalso
          have hb := HBB.out
          simp only [Bool.and_eq_true, decide_eq_true_eq] at hb
          obtain ⟨⟨⟨⟨b1, b2⟩, b3⟩, b4⟩, b5⟩ := hb
          obtain ⟨q1, q2, q3, q4⟩ := HQ.out
          refine hP ⟨q1.trans b1, ?_, q3.trans b3, by omega, by have := HSZ.out; omega⟩
          rw [q2, b2]
      subst hBf
      have HNP := Lib.hid hP
      clear hP
      go_enter Tryz.func10, Tryz.ntmps10
      go_wp2_with fail
      refine (HC.out _).mono ?_; rintro e w2 ⟨rfl, hb2⟩
      have hT2 : Tk R9 w.heap.size k wd n a w2 := (hb2.block _ (by simp)).trans (Tk.made w)
      have q3 := hT2.c3
      have qf := hT2.fz
      clear hT2
      go_wp2_with fail
      refine (HN.out _).mono ?_; rintro e w4 ⟨hb4, rfl⟩
      have hT : Tk R9 w.heap.size k wd n 0 w4 := (hb4.block _ (by have := hb2.size; simp [World.setCell] at this ⊢; omega)).trans (Tk.set3 ((hb2.block _ (by simp)).trans (Tk.made w)) 0)
      have hz4 : w.heap.size < w4.heap.size := Nat.lt_of_lt_of_le (by have := hb2.size; simp [World.setCell] at this ⊢; omega) hb4.size
      have hb4 : Below w.heap.size w w4 := (Below.setCell (p := ⟨w.heap.size, 3, none⟩) (((Below.refl _ _).alloc (Nat.le_refl _) _).trans (hb2.mono (by simp))) (Nat.le_refl _) (.int .i64 0)).trans (hb4.mono (by have := hb2.size; simp [World.setCell] at this ⊢; omega))
      have g0 := hT.c0
      have g1 := hT.c1
      have g2 := hT.c2
      have g3 := hT.c3
      have gf := hT.fz
      rw [HVV.out]
      go_wp2_with fail
      all_goals first
        | (go_ret2; exact ⟨hb4.alloc (Nat.le_of_lt hz4) _, by rw [HSS.out]; rfl⟩)
        | (have hF : ((m : Int) == (V.size : Int)) = false := by
            rw [beq_eq_false_iff_ne]; intro hme
            exact HNP.out ⟨by assumption, bytes_inj (by assumption), by assumption, by assumption, hme⟩
           go_ret2
           exact ⟨hb4.alloc (Nat.le_of_lt hz4) _, by rw [HSS.out]; exact ret2 rfl (congrArg Value.bool hF)⟩)
set_option maxRecDepth 100000 in
set_option maxHeartbeats 3200000 in
theorem rspell_text (hk : -9223372036854775808 ≤ k ∧ k ≤ 9223372036854775807) (h0 : -9223372036854775808 ≤ n) (h1 : n ≤ 9223372036854775807) (hs : wd.size ≤ 35184372088832) (h : k = 4) :
    Calls Tryz.prog 10 #[.agg #[.int .i64 k, .string wd, .int .i64 n, .int .i64 a]] w (RSpelt (spelledL k wd.data.toList n) (spellB (spelledL k wd.data.toList n) k wd.data.toList n) w) := by
  have hlen := sp_len k n wd.data.toList h0 h1
  have hwl : wd.data.toList.length = wd.size := rfl
  have hSp : spelledL k wd.data.toList n = quoteL wd.data.toList := by unfold spelledL; rw [if_neg (by omega), if_neg (by omega), if_pos h]
  obtain ⟨S, hS⟩ : ∃ S, spelledL k wd.data.toList n = S := ⟨_, rfl⟩
  rw [hS] at hlen hSp ⊢
  obtain ⟨B, hB⟩ : ∃ B, spellB S k wd.data.toList n = B := ⟨_, rfl⟩
  rw [hB]
  have hBB := hB
  unfold spellB at hBB
  obtain ⟨V, hSS⟩ : ∃ V : ByteArray, (⟨S.toArray⟩ : ByteArray) = V := ⟨_, rfl⟩
  have hsz : V.size = S.length := by rw [← hSS]; simp [ByteArray.size]
  have hSl : V.data.toList = S := by rw [← hSS]
  have hN := fun v : World => rnext_any (s := V) (w := v) (by omega)
  rw [hSl] at hN
  obtain ⟨x, hx⟩ : ∃ x, nextR S = x := ⟨_, rfl⟩
  have herr := fun p n => nextR_err S p n
  rw [hx] at hN hBB herr
  have hVd : (⟨(quoteL wd.data.toList).toArray⟩ : ByteArray) = V := by rw [← hSS, hSp]
  have hC := fun v : World => rquote_any (w := v) hs
  rw [hVd] at hC
  have HC := Lib.hid hC
  clear hC hVd
  have HN := Lib.hid hN
  have HBB := Lib.hid hBB
  have HSS := Lib.hid hSS
  have HSZ := Lib.hid hsz
  have n1 : (k == 1) = false := by rw [beq_eq_false_iff_ne]; omega
  have n2 : (k == 2) = false := by rw [beq_eq_false_iff_ne]; omega
  have n3 : (k == 3) = false := by rw [beq_eq_false_iff_ne]; omega
  have n4 : (k == 4) = true := by rw [h]; rfl
  have n5 : (k == 5) = false := by rw [beq_eq_false_iff_ne]; omega
  have n6 : (k == 6) = false := by rw [beq_eq_false_iff_ne]; omega
  have n7 : (k == 7) = false := by rw [beq_eq_false_iff_ne]; omega
  have n8 : (k == 8) = false := by rw [beq_eq_false_iff_ne]; omega
  have n9 : (k == 9) = false := by rw [beq_eq_false_iff_ne]; omega
  have n10 : (k == 10) = false := by rw [beq_eq_false_iff_ne]; omega
  have n11 : (k == 11) = false := by rw [beq_eq_false_iff_ne]; omega
  have n12 : (k == 12) = false := by rw [beq_eq_false_iff_ne]; omega
  have n13 : (k == 13) = false := by rw [beq_eq_false_iff_ne]; omega
  have n14 : (k == 14) = false := by rw [beq_eq_false_iff_ne]; omega
  have n15 : (k == 15) = false := by rw [beq_eq_false_iff_ne]; omega
  have n16 : (k == 16) = false := by rw [beq_eq_false_iff_ne]; omega
  clear hN hBB hB hx hSl hS hSS hSp hwl hlen hsz h
  cases x with
  | error y =>
    obtain ⟨p, m⟩ := y
    have hm0 := herr p m rfl
    have hmb : (m == 0) = false := by simpa using hm0
    have hBf : B = false := HBB.out.symm
    subst hBf
    clear herr hm0
    go_enter Tryz.func10, Tryz.ntmps10
    go_wp2_with fail
    refine (HC.out _).mono ?_; rintro e w2 ⟨rfl, hb2⟩
    have hT2 : Tk R9 w.heap.size k wd n a w2 := (hb2.block _ (by simp)).trans (Tk.made w)
    have q3 := hT2.c3
    have qf := hT2.fz
    clear hT2
    go_wp2_with fail
    refine (HN.out _).mono ?_; rintro e w4 ⟨hb4, rfl⟩
    have hT : Tk R9 w.heap.size k wd n 0 w4 := (hb4.block _ (by have := hb2.size; simp [World.setCell] at this ⊢; omega)).trans (Tk.set3 ((hb2.block _ (by simp)).trans (Tk.made w)) 0)
    have hz4 : w.heap.size < w4.heap.size := Nat.lt_of_lt_of_le (by have := hb2.size; simp [World.setCell] at this ⊢; omega) hb4.size
    have hb4 : Below w.heap.size w w4 := (Below.setCell (p := ⟨w.heap.size, 3, none⟩) (((Below.refl _ _).alloc (Nat.le_refl _) _).trans (hb2.mono (by simp))) (Nat.le_refl _) (.int .i64 0)).trans (hb4.mono (by have := hb2.size; simp [World.setCell] at this ⊢; omega))
    have g0 := hT.c0
    have g1 := hT.c1
    have g2 := hT.c2
    have g3 := hT.c3
    have gf := hT.fz
    rw [show tokV 0 ⟨0, [], 0, 0⟩ = .agg #[.int .i64 0, .string ⟨#[]⟩, .int .i64 0, .int .i64 0] from rfl]
    go_wp2_with fail
    go_ret2
    exact ⟨hb4.alloc (Nat.le_of_lt hz4) _, by rw [HSS.out]; rfl⟩
  | ok y =>
    obtain ⟨t, m⟩ := y
    clear herr
    obtain ⟨kd, wd', nn, aa, hV, hq⟩ : ∃ (kd : Int) (wd' : ByteArray) (nn aa : Int), tokV 0 t = .agg #[.int .i64 kd, .string wd', .int .i64 nn, .int .i64 aa] ∧ (kd = (t.kind : Int) ∧ wd' = ⟨t.word.toArray⟩ ∧ nn = t.num ∧ aa = ((0 + t.at_ : Nat) : Int)) := ⟨_, _, _, _, rfl, rfl, rfl, rfl, rfl⟩
    have HQ := Lib.hid hq
    have HVV := Lib.hid hV
    clear hq hV
    by_cases hP : kd = k ∧ wd' = wd ∧ nn = n ∧ aa = 0 ∧ (m : Int) = (V.size : Int)
    · have hBt : B = true := by
        rw [← HBB.out]
        obtain ⟨q1, q2, q3, q4⟩ := HQ.out
        obtain ⟨p1, p2, p3, p4, p5⟩ := hP
        have e1 : (t.kind : Int) = k := by rw [← q1]; exact p1
        have e2 : t.word = wd.data.toList := by rw [← p2, q2]
        have e3 : t.num = n := by rw [← q3]; exact p3
        have e4 : t.at_ = 0 := by omega
        have e5 : m = S.length := by have := HSZ.out; omega
        simp [e1, e2, e3, e4, e5]
      subst hBt
      obtain ⟨p1, p2, p3, rfl, p5⟩ := hP
      have p1 : (kd == k) = true := by rw [p1]; simp
      have p2 : (wd'.toList == wd.toList) = true := by rw [p2]; simp
      have p3 : (nn == n) = true := by rw [p3]; simp
      have p5b : ((m : Int) == (V.size : Int)) = true := by rw [p5]; simp
      clear p5
      go_enter Tryz.func10, Tryz.ntmps10
      go_wp2_with fail
      refine (HC.out _).mono ?_; rintro e w2 ⟨rfl, hb2⟩
      have hT2 : Tk R9 w.heap.size k wd n a w2 := (hb2.block _ (by simp)).trans (Tk.made w)
      have q3 := hT2.c3
      have qf := hT2.fz
      clear hT2
      go_wp2_with fail
      refine (HN.out _).mono ?_; rintro e w4 ⟨hb4, rfl⟩
      have hT : Tk R9 w.heap.size k wd n 0 w4 := (hb4.block _ (by have := hb2.size; simp [World.setCell] at this ⊢; omega)).trans (Tk.set3 ((hb2.block _ (by simp)).trans (Tk.made w)) 0)
      have hz4 : w.heap.size < w4.heap.size := Nat.lt_of_lt_of_le (by have := hb2.size; simp [World.setCell] at this ⊢; omega) hb4.size
      have hb4 : Below w.heap.size w w4 := (Below.setCell (p := ⟨w.heap.size, 3, none⟩) (((Below.refl _ _).alloc (Nat.le_refl _) _).trans (hb2.mono (by simp))) (Nat.le_refl _) (.int .i64 0)).trans (hb4.mono (by have := hb2.size; simp [World.setCell] at this ⊢; omega))
      have g0 := hT.c0
      have g1 := hT.c1
      have g2 := hT.c2
      have g3 := hT.c3
      have gf := hT.fz
      rw [HVV.out]
      go_wp2_with fail
      go_ret2
      exact ⟨hb4.alloc (Nat.le_of_lt hz4) _, by rw [HSS.out]; rfl⟩
    · have hBf : B = false := by
        cases B
        · rfl
        · exfalso
          have hb := HBB.out
          simp only [Bool.and_eq_true, decide_eq_true_eq] at hb
          obtain ⟨⟨⟨⟨b1, b2⟩, b3⟩, b4⟩, b5⟩ := hb
          obtain ⟨q1, q2, q3, q4⟩ := HQ.out
          refine hP ⟨q1.trans b1, ?_, q3.trans b3, by omega, by have := HSZ.out; omega⟩
          rw [q2, b2]
      subst hBf
      have HNP := Lib.hid hP
      clear hP
      go_enter Tryz.func10, Tryz.ntmps10
      go_wp2_with fail
      refine (HC.out _).mono ?_; rintro e w2 ⟨rfl, hb2⟩
      have hT2 : Tk R9 w.heap.size k wd n a w2 := (hb2.block _ (by simp)).trans (Tk.made w)
      have q3 := hT2.c3
      have qf := hT2.fz
      clear hT2
      go_wp2_with fail
      refine (HN.out _).mono ?_; rintro e w4 ⟨hb4, rfl⟩
      have hT : Tk R9 w.heap.size k wd n 0 w4 := (hb4.block _ (by have := hb2.size; simp [World.setCell] at this ⊢; omega)).trans (Tk.set3 ((hb2.block _ (by simp)).trans (Tk.made w)) 0)
      have hz4 : w.heap.size < w4.heap.size := Nat.lt_of_lt_of_le (by have := hb2.size; simp [World.setCell] at this ⊢; omega) hb4.size
      have hb4 : Below w.heap.size w w4 := (Below.setCell (p := ⟨w.heap.size, 3, none⟩) (((Below.refl _ _).alloc (Nat.le_refl _) _).trans (hb2.mono (by simp))) (Nat.le_refl _) (.int .i64 0)).trans (hb4.mono (by have := hb2.size; simp [World.setCell] at this ⊢; omega))
      have g0 := hT.c0
      have g1 := hT.c1
      have g2 := hT.c2
      have g3 := hT.c3
      have gf := hT.fz
      rw [HVV.out]
      go_wp2_with fail
      all_goals first
        | (go_ret2; exact ⟨hb4.alloc (Nat.le_of_lt hz4) _, by rw [HSS.out]; rfl⟩)
        | (have hF : ((m : Int) == (V.size : Int)) = false := by
            rw [beq_eq_false_iff_ne]; intro hme
            exact HNP.out ⟨by assumption, bytes_inj (by assumption), by assumption, by assumption, hme⟩
           go_ret2
           exact ⟨hb4.alloc (Nat.le_of_lt hz4) _, by rw [HSS.out]; exact ret2 rfl (congrArg Value.bool hF)⟩)
end Lx
end Go.Proofs.YtpfaldcfnhjlgaaGreatDoor
namespace Go.Proofs.YtpfaldcfnhjlgaaGreatDoor
open Go.RowKit
namespace Lx
variable {k n a : Int} {wd : ByteArray} {w : World}
set_option maxRecDepth 100000 in
set_option maxHeartbeats 3200000 in
theorem rspell_sym (hk : -9223372036854775808 ≤ k ∧ k ≤ 9223372036854775807) (h0 : -9223372036854775808 ≤ n) (h1 : n ≤ 9223372036854775807) (hs : wd.size ≤ 35184372088832) (h : k = 5 ∧ ¬ arityP wd.data.toList < 0) :
    Calls Tryz.prog 10 #[.agg #[.int .i64 k, .string wd, .int .i64 n, .int .i64 a]] w (RSpelt (spelledL k wd.data.toList n) (spellB (spelledL k wd.data.toList n) k wd.data.toList n) w) := by
  have hlen := sp_len k n wd.data.toList h0 h1
  have hwl : wd.data.toList.length = wd.size := rfl
  have hSp : spelledL k wd.data.toList n = 35 :: wd.data.toList := by unfold spelledL; rw [if_neg (by omega), if_neg (by omega), if_neg (by omega), if_pos h.1, if_neg h.2]
  obtain ⟨S, hS⟩ : ∃ S, spelledL k wd.data.toList n = S := ⟨_, rfl⟩
  rw [hS] at hlen hSp ⊢
  obtain ⟨B, hB⟩ : ∃ B, spellB S k wd.data.toList n = B := ⟨_, rfl⟩
  rw [hB]
  have hBB := hB
  unfold spellB at hBB
  obtain ⟨V, hSS⟩ : ∃ V : ByteArray, (⟨S.toArray⟩ : ByteArray) = V := ⟨_, rfl⟩
  have hsz : V.size = S.length := by rw [← hSS]; simp [ByteArray.size]
  have hSl : V.data.toList = S := by rw [← hSS]
  have hN := fun v : World => rnext_any (s := V) (w := v) (by omega)
  rw [hSl] at hN
  obtain ⟨x, hx⟩ : ∃ x, nextR S = x := ⟨_, rfl⟩
  have herr := fun p n => nextR_err S p n
  rw [hx] at hN hBB herr
  have hVd : (⟨#[35]⟩ : ByteArray) ++ wd = V := by rw [← hSS, hSp]; exact cat2 35 wd
  have hC := fun v : World => rarity_any (s := wd) (w := v) (by omega)
  obtain ⟨h, ha⟩ := h
  obtain ⟨A, hA⟩ : ∃ A, arityP wd.data.toList = A := ⟨_, rfl⟩
  rw [hA] at hC ha
  have HC := Lib.hid hC
  have hwi : (wd.size : Int) ≤ 35184372088832 := by omega
  clear hC hA
  have HN := Lib.hid hN
  have HBB := Lib.hid hBB
  have HSS := Lib.hid hSS
  have HSZ := Lib.hid hsz
  have n1 : (k == 1) = false := by rw [beq_eq_false_iff_ne]; omega
  have n2 : (k == 2) = false := by rw [beq_eq_false_iff_ne]; omega
  have n3 : (k == 3) = false := by rw [beq_eq_false_iff_ne]; omega
  have n4 : (k == 4) = false := by rw [beq_eq_false_iff_ne]; omega
  have n5 : (k == 5) = true := by rw [h]; rfl
  have n6 : (k == 6) = false := by rw [beq_eq_false_iff_ne]; omega
  have n7 : (k == 7) = false := by rw [beq_eq_false_iff_ne]; omega
  have n8 : (k == 8) = false := by rw [beq_eq_false_iff_ne]; omega
  have n9 : (k == 9) = false := by rw [beq_eq_false_iff_ne]; omega
  have n10 : (k == 10) = false := by rw [beq_eq_false_iff_ne]; omega
  have n11 : (k == 11) = false := by rw [beq_eq_false_iff_ne]; omega
  have n12 : (k == 12) = false := by rw [beq_eq_false_iff_ne]; omega
  have n13 : (k == 13) = false := by rw [beq_eq_false_iff_ne]; omega
  have n14 : (k == 14) = false := by rw [beq_eq_false_iff_ne]; omega
  have n15 : (k == 15) = false := by rw [beq_eq_false_iff_ne]; omega
  have n16 : (k == 16) = false := by rw [beq_eq_false_iff_ne]; omega
  clear hN hBB hB hx hSl hS hSS hSp hwl hlen hsz h
  cases x with
  | error y =>
    obtain ⟨p, m⟩ := y
    have hm0 := herr p m rfl
    have hmb : (m == 0) = false := by simpa using hm0
    have hBf : B = false := HBB.out.symm
    subst hBf
    clear herr hm0
    go_enter Tryz.func10, Tryz.ntmps10
    go_wp2_with fail
    refine (HC.out _).mono ?_; rintro e w2 ⟨rfl, rfl⟩
    go_wp2_with fail
    refine (HN.out _).mono ?_; rintro e w4 ⟨hb4, rfl⟩
    have hT : Tk R9 w.heap.size k wd n 0 w4 := (hb4.block _ (by simp)).trans (Tk.made w)
    have hz4 : w.heap.size < w4.heap.size := Nat.lt_of_lt_of_le (by simp) hb4.size
    have hb4 : Below w.heap.size w w4 := ((Below.refl _ _).alloc (Nat.le_refl _) _).trans (hb4.mono (by simp))
    have g0 := hT.c0
    have g1 := hT.c1
    have g2 := hT.c2
    have g3 := hT.c3
    have gf := hT.fz
    rw [show tokV 0 ⟨0, [], 0, 0⟩ = .agg #[.int .i64 0, .string ⟨#[]⟩, .int .i64 0, .int .i64 0] from rfl]
    go_wp2_with fail
    go_ret2
    exact ⟨hb4.alloc (Nat.le_of_lt hz4) _, by rw [HSS.out]; rfl⟩
  | ok y =>
    obtain ⟨t, m⟩ := y
    clear herr
    obtain ⟨kd, wd', nn, aa, hV, hq⟩ : ∃ (kd : Int) (wd' : ByteArray) (nn aa : Int), tokV 0 t = .agg #[.int .i64 kd, .string wd', .int .i64 nn, .int .i64 aa] ∧ (kd = (t.kind : Int) ∧ wd' = ⟨t.word.toArray⟩ ∧ nn = t.num ∧ aa = ((0 + t.at_ : Nat) : Int)) := ⟨_, _, _, _, rfl, rfl, rfl, rfl, rfl⟩
    have HQ := Lib.hid hq
    have HVV := Lib.hid hV
    clear hq hV
    by_cases hP : kd = k ∧ wd' = wd ∧ nn = n ∧ aa = 0 ∧ (m : Int) = (V.size : Int)
    · have hBt : B = true := by
        rw [← HBB.out]
        obtain ⟨q1, q2, q3, q4⟩ := HQ.out
        obtain ⟨p1, p2, p3, p4, p5⟩ := hP
        have e1 : (t.kind : Int) = k := by rw [← q1]; exact p1
        have e2 : t.word = wd.data.toList := by rw [← p2, q2]
        have e3 : t.num = n := by rw [← q3]; exact p3
        have e4 : t.at_ = 0 := by omega
        have e5 : m = S.length := by have := HSZ.out; omega
        simp [e1, e2, e3, e4, e5]
      subst hBt
      obtain ⟨p1, p2, p3, rfl, p5⟩ := hP
      have p1 : (kd == k) = true := by rw [p1]; simp
      have p2 : (wd'.toList == wd.toList) = true := by rw [p2]; simp
      have p3 : (nn == n) = true := by rw [p3]; simp
      have p5b : ((m : Int) == (V.size : Int)) = true := by rw [p5]; simp
      clear p5
      go_enter Tryz.func10, Tryz.ntmps10
      go_wp2_with fail
      refine (HC.out _).mono ?_; rintro e w2 ⟨rfl, rfl⟩
      go_wp2_with fail
      refine (HN.out _).mono ?_; rintro e w4 ⟨hb4, rfl⟩
      have hT : Tk R9 w.heap.size k wd n 0 w4 := (hb4.block _ (by simp)).trans (Tk.made w)
      have hz4 : w.heap.size < w4.heap.size := Nat.lt_of_lt_of_le (by simp) hb4.size
      have hb4 : Below w.heap.size w w4 := ((Below.refl _ _).alloc (Nat.le_refl _) _).trans (hb4.mono (by simp))
      have g0 := hT.c0
      have g1 := hT.c1
      have g2 := hT.c2
      have g3 := hT.c3
      have gf := hT.fz
      rw [HVV.out]
      go_wp2_with fail
      go_ret2
      exact ⟨hb4.alloc (Nat.le_of_lt hz4) _, by rw [HSS.out]; rfl⟩
    · have hBf : B = false := by
        cases B
        · rfl
        · exfalso
          have hb := HBB.out
          simp only [Bool.and_eq_true, decide_eq_true_eq] at hb
          obtain ⟨⟨⟨⟨b1, b2⟩, b3⟩, b4⟩, b5⟩ := hb
          obtain ⟨q1, q2, q3, q4⟩ := HQ.out
          refine hP ⟨q1.trans b1, ?_, q3.trans b3, by omega, by have := HSZ.out; omega⟩
          rw [q2, b2]
      subst hBf
      have HNP := Lib.hid hP
      clear hP
      go_enter Tryz.func10, Tryz.ntmps10
      go_wp2_with fail
      refine (HC.out _).mono ?_; rintro e w2 ⟨rfl, rfl⟩
      go_wp2_with fail
      refine (HN.out _).mono ?_; rintro e w4 ⟨hb4, rfl⟩
      have hT : Tk R9 w.heap.size k wd n 0 w4 := (hb4.block _ (by simp)).trans (Tk.made w)
      have hz4 : w.heap.size < w4.heap.size := Nat.lt_of_lt_of_le (by simp) hb4.size
      have hb4 : Below w.heap.size w w4 := ((Below.refl _ _).alloc (Nat.le_refl _) _).trans (hb4.mono (by simp))
      have g0 := hT.c0
      have g1 := hT.c1
      have g2 := hT.c2
      have g3 := hT.c3
      have gf := hT.fz
      rw [HVV.out]
      go_wp2_with fail
      all_goals first
        | (go_ret2; exact ⟨hb4.alloc (Nat.le_of_lt hz4) _, by rw [HSS.out]; rfl⟩)
        | (have hF : ((m : Int) == (V.size : Int)) = false := by
            rw [beq_eq_false_iff_ne]; intro hme
            exact HNP.out ⟨by assumption, bytes_inj (by assumption), by assumption, by assumption, hme⟩
           go_ret2
           exact ⟨hb4.alloc (Nat.le_of_lt hz4) _, by rw [HSS.out]; exact ret2 rfl (congrArg Value.bool hF)⟩)
set_option maxRecDepth 100000 in
set_option maxHeartbeats 3200000 in
theorem rspell_symq (hk : -9223372036854775808 ≤ k ∧ k ≤ 9223372036854775807) (h0 : -9223372036854775808 ≤ n) (h1 : n ≤ 9223372036854775807) (hs : wd.size ≤ 35184372088832) (h : k = 5 ∧ arityP wd.data.toList < 0) :
    Calls Tryz.prog 10 #[.agg #[.int .i64 k, .string wd, .int .i64 n, .int .i64 a]] w (RSpelt (spelledL k wd.data.toList n) (spellB (spelledL k wd.data.toList n) k wd.data.toList n) w) := by
  have hlen := sp_len k n wd.data.toList h0 h1
  have hwl : wd.data.toList.length = wd.size := rfl
  have hSp : spelledL k wd.data.toList n = 35 :: quoteL wd.data.toList := by unfold spelledL; rw [if_neg (by omega), if_neg (by omega), if_neg (by omega), if_pos h.1, if_pos h.2]
  obtain ⟨S, hS⟩ : ∃ S, spelledL k wd.data.toList n = S := ⟨_, rfl⟩
  rw [hS] at hlen hSp ⊢
  obtain ⟨B, hB⟩ : ∃ B, spellB S k wd.data.toList n = B := ⟨_, rfl⟩
  rw [hB]
  have hBB := hB
  unfold spellB at hBB
  obtain ⟨V, hSS⟩ : ∃ V : ByteArray, (⟨S.toArray⟩ : ByteArray) = V := ⟨_, rfl⟩
  have hsz : V.size = S.length := by rw [← hSS]; simp [ByteArray.size]
  have hSl : V.data.toList = S := by rw [← hSS]
  have hN := fun v : World => rnext_any (s := V) (w := v) (by omega)
  rw [hSl] at hN
  obtain ⟨x, hx⟩ : ∃ x, nextR S = x := ⟨_, rfl⟩
  have herr := fun p n => nextR_err S p n
  rw [hx] at hN hBB herr
  have hVd : (⟨#[35]⟩ : ByteArray) ++ (⟨(quoteL wd.data.toList).toArray⟩ : ByteArray) = V := by rw [← hSS, hSp]; exact cat2 35 _
  have hC := fun v : World => rarity_any (s := wd) (w := v) (by omega)
  have hC2 := fun v : World => rquote_any (w := v) hs
  obtain ⟨h, ha⟩ := h
  obtain ⟨A, hA⟩ : ∃ A, arityP wd.data.toList = A := ⟨_, rfl⟩
  rw [hA] at hC ha
  have hql : (quoteL wd.data.toList).length ≤ 140737488355327 := by rw [hSp] at hlen; simp at hlen; omega
  obtain ⟨Q, hQ⟩ : ∃ Q : ByteArray, (⟨(quoteL wd.data.toList).toArray⟩ : ByteArray) = Q := ⟨_, rfl⟩
  have hQi : (Q.size : Int) ≤ 140737488355327 := by rw [← hQ]; simp [ByteArray.size]; omega
  rw [hQ] at hC2 hVd
  have HC := Lib.hid hC
  have HC2 := Lib.hid hC2
  have hwi : (wd.size : Int) ≤ 35184372088832 := by omega
  clear hC hA hC2 hQ hql
  have HN := Lib.hid hN
  have HBB := Lib.hid hBB
  have HSS := Lib.hid hSS
  have HSZ := Lib.hid hsz
  have n1 : (k == 1) = false := by rw [beq_eq_false_iff_ne]; omega
  have n2 : (k == 2) = false := by rw [beq_eq_false_iff_ne]; omega
  have n3 : (k == 3) = false := by rw [beq_eq_false_iff_ne]; omega
  have n4 : (k == 4) = false := by rw [beq_eq_false_iff_ne]; omega
  have n5 : (k == 5) = true := by rw [h]; rfl
  have n6 : (k == 6) = false := by rw [beq_eq_false_iff_ne]; omega
  have n7 : (k == 7) = false := by rw [beq_eq_false_iff_ne]; omega
  have n8 : (k == 8) = false := by rw [beq_eq_false_iff_ne]; omega
  have n9 : (k == 9) = false := by rw [beq_eq_false_iff_ne]; omega
  have n10 : (k == 10) = false := by rw [beq_eq_false_iff_ne]; omega
  have n11 : (k == 11) = false := by rw [beq_eq_false_iff_ne]; omega
  have n12 : (k == 12) = false := by rw [beq_eq_false_iff_ne]; omega
  have n13 : (k == 13) = false := by rw [beq_eq_false_iff_ne]; omega
  have n14 : (k == 14) = false := by rw [beq_eq_false_iff_ne]; omega
  have n15 : (k == 15) = false := by rw [beq_eq_false_iff_ne]; omega
  have n16 : (k == 16) = false := by rw [beq_eq_false_iff_ne]; omega
  clear hN hBB hB hx hSl hS hSS hSp hwl hlen hsz h
  cases x with
  | error y =>
    obtain ⟨p, m⟩ := y
    have hm0 := herr p m rfl
    have hmb : (m == 0) = false := by simpa using hm0
    have hBf : B = false := HBB.out.symm
    subst hBf
    clear herr hm0
    go_enter Tryz.func10, Tryz.ntmps10
    go_wp2_with fail
    refine (HC.out _).mono ?_; rintro e w2 ⟨rfl, rfl⟩
    go_wp2_with fail
    refine (HC2.out _).mono ?_; rintro e w2 ⟨rfl, hb2⟩
    have hT2 : Tk R9 w.heap.size k wd n a w2 := (hb2.block _ (by simp)).trans (Tk.made w)
    have q3 := hT2.c3
    have qf := hT2.fz
    clear hT2
    go_wp2_with fail
    refine (HN.out _).mono ?_; rintro e w4 ⟨hb4, rfl⟩
    have hT : Tk R9 w.heap.size k wd n 0 w4 := (hb4.block _ (by have := hb2.size; simp [World.setCell] at this ⊢; omega)).trans (Tk.set3 ((hb2.block _ (by simp)).trans (Tk.made w)) 0)
    have hz4 : w.heap.size < w4.heap.size := Nat.lt_of_lt_of_le (by have := hb2.size; simp [World.setCell] at this ⊢; omega) hb4.size
    have hb4 : Below w.heap.size w w4 := (Below.setCell (p := ⟨w.heap.size, 3, none⟩) (((Below.refl _ _).alloc (Nat.le_refl _) _).trans (hb2.mono (by simp))) (Nat.le_refl _) (.int .i64 0)).trans (hb4.mono (by have := hb2.size; simp [World.setCell] at this ⊢; omega))
    have g0 := hT.c0
    have g1 := hT.c1
    have g2 := hT.c2
    have g3 := hT.c3
    have gf := hT.fz
    rw [show tokV 0 ⟨0, [], 0, 0⟩ = .agg #[.int .i64 0, .string ⟨#[]⟩, .int .i64 0, .int .i64 0] from rfl]
    go_wp2_with fail
    go_ret2
    exact ⟨hb4.alloc (Nat.le_of_lt hz4) _, by rw [HSS.out]; rfl⟩
  | ok y =>
    obtain ⟨t, m⟩ := y
    clear herr
    obtain ⟨kd, wd', nn, aa, hV, hq⟩ : ∃ (kd : Int) (wd' : ByteArray) (nn aa : Int), tokV 0 t = .agg #[.int .i64 kd, .string wd', .int .i64 nn, .int .i64 aa] ∧ (kd = (t.kind : Int) ∧ wd' = ⟨t.word.toArray⟩ ∧ nn = t.num ∧ aa = ((0 + t.at_ : Nat) : Int)) := ⟨_, _, _, _, rfl, rfl, rfl, rfl, rfl⟩
    have HQ := Lib.hid hq
    have HVV := Lib.hid hV
    clear hq hV
    by_cases hP : kd = k ∧ wd' = wd ∧ nn = n ∧ aa = 0 ∧ (m : Int) = (V.size : Int)
    · have hBt : B = true := by
        rw [← HBB.out]
        obtain ⟨q1, q2, q3, q4⟩ := HQ.out
        obtain ⟨p1, p2, p3, p4, p5⟩ := hP
        have e1 : (t.kind : Int) = k := by rw [← q1]; exact p1
        have e2 : t.word = wd.data.toList := by rw [← p2, q2]
        have e3 : t.num = n := by rw [← q3]; exact p3
        have e4 : t.at_ = 0 := by omega
        have e5 : m = S.length := by have := HSZ.out; omega
        simp [e1, e2, e3, e4, e5]
      subst hBt
      obtain ⟨p1, p2, p3, rfl, p5⟩ := hP
      have p1 : (kd == k) = true := by rw [p1]; simp
      have p2 : (wd'.toList == wd.toList) = true := by rw [p2]; simp
      have p3 : (nn == n) = true := by rw [p3]; simp
      have p5b : ((m : Int) == (V.size : Int)) = true := by rw [p5]; simp
      clear p5
      go_enter Tryz.func10, Tryz.ntmps10
      go_wp2_with fail
      refine (HC.out _).mono ?_; rintro e w2 ⟨rfl, rfl⟩
      go_wp2_with fail
      refine (HC2.out _).mono ?_; rintro e w2 ⟨rfl, hb2⟩
      have hT2 : Tk R9 w.heap.size k wd n a w2 := (hb2.block _ (by simp)).trans (Tk.made w)
      have q3 := hT2.c3
      have qf := hT2.fz
      clear hT2
      go_wp2_with fail
      refine (HN.out _).mono ?_; rintro e w4 ⟨hb4, rfl⟩
      have hT : Tk R9 w.heap.size k wd n 0 w4 := (hb4.block _ (by have := hb2.size; simp [World.setCell] at this ⊢; omega)).trans (Tk.set3 ((hb2.block _ (by simp)).trans (Tk.made w)) 0)
      have hz4 : w.heap.size < w4.heap.size := Nat.lt_of_lt_of_le (by have := hb2.size; simp [World.setCell] at this ⊢; omega) hb4.size
      have hb4 : Below w.heap.size w w4 := (Below.setCell (p := ⟨w.heap.size, 3, none⟩) (((Below.refl _ _).alloc (Nat.le_refl _) _).trans (hb2.mono (by simp))) (Nat.le_refl _) (.int .i64 0)).trans (hb4.mono (by have := hb2.size; simp [World.setCell] at this ⊢; omega))
      have g0 := hT.c0
      have g1 := hT.c1
      have g2 := hT.c2
      have g3 := hT.c3
      have gf := hT.fz
      rw [HVV.out]
      go_wp2_with fail
      go_ret2
      exact ⟨hb4.alloc (Nat.le_of_lt hz4) _, by rw [HSS.out]; rfl⟩
    · have hBf : B = false := by
        cases B
        · rfl
        · exfalso
          have hb := HBB.out
          simp only [Bool.and_eq_true, decide_eq_true_eq] at hb
          obtain ⟨⟨⟨⟨b1, b2⟩, b3⟩, b4⟩, b5⟩ := hb
          obtain ⟨q1, q2, q3, q4⟩ := HQ.out
          refine hP ⟨q1.trans b1, ?_, q3.trans b3, by omega, by have := HSZ.out; omega⟩
          rw [q2, b2]
      subst hBf
      have HNP := Lib.hid hP
      clear hP
      go_enter Tryz.func10, Tryz.ntmps10
      go_wp2_with fail
      refine (HC.out _).mono ?_; rintro e w2 ⟨rfl, rfl⟩
      go_wp2_with fail
      refine (HC2.out _).mono ?_; rintro e w2 ⟨rfl, hb2⟩
      have hT2 : Tk R9 w.heap.size k wd n a w2 := (hb2.block _ (by simp)).trans (Tk.made w)
      have q3 := hT2.c3
      have qf := hT2.fz
      clear hT2
      go_wp2_with fail
      refine (HN.out _).mono ?_; rintro e w4 ⟨hb4, rfl⟩
      have hT : Tk R9 w.heap.size k wd n 0 w4 := (hb4.block _ (by have := hb2.size; simp [World.setCell] at this ⊢; omega)).trans (Tk.set3 ((hb2.block _ (by simp)).trans (Tk.made w)) 0)
      have hz4 : w.heap.size < w4.heap.size := Nat.lt_of_lt_of_le (by have := hb2.size; simp [World.setCell] at this ⊢; omega) hb4.size
      have hb4 : Below w.heap.size w w4 := (Below.setCell (p := ⟨w.heap.size, 3, none⟩) (((Below.refl _ _).alloc (Nat.le_refl _) _).trans (hb2.mono (by simp))) (Nat.le_refl _) (.int .i64 0)).trans (hb4.mono (by have := hb2.size; simp [World.setCell] at this ⊢; omega))
      have g0 := hT.c0
      have g1 := hT.c1
      have g2 := hT.c2
      have g3 := hT.c3
      have gf := hT.fz
      rw [HVV.out]
      go_wp2_with fail
      all_goals first
        | (go_ret2; exact ⟨hb4.alloc (Nat.le_of_lt hz4) _, by rw [HSS.out]; rfl⟩)
        | (have hF : ((m : Int) == (V.size : Int)) = false := by
            rw [beq_eq_false_iff_ne]; intro hme
            exact HNP.out ⟨by assumption, bytes_inj (by assumption), by assumption, by assumption, hme⟩
           go_ret2
           exact ⟨hb4.alloc (Nat.le_of_lt hz4) _, by rw [HSS.out]; exact ret2 rfl (congrArg Value.bool hF)⟩)
set_option maxRecDepth 100000 in
set_option maxHeartbeats 3200000 in
theorem rspell_assign (hk : -9223372036854775808 ≤ k ∧ k ≤ 9223372036854775807) (h0 : -9223372036854775808 ≤ n) (h1 : n ≤ 9223372036854775807) (hs : wd.size ≤ 35184372088832) (h : k = 7) :
    Calls Tryz.prog 10 #[.agg #[.int .i64 k, .string wd, .int .i64 n, .int .i64 a]] w (RSpelt (spelledL k wd.data.toList n) (spellB (spelledL k wd.data.toList n) k wd.data.toList n) w) := by
  have hlen := sp_len k n wd.data.toList h0 h1
  have hwl : wd.data.toList.length = wd.size := rfl
  have hSp : spelledL k wd.data.toList n = [58, 61] := by rw [h]; rfl
  obtain ⟨S, hS⟩ : ∃ S, spelledL k wd.data.toList n = S := ⟨_, rfl⟩
  rw [hS] at hlen hSp ⊢
  obtain ⟨B, hB⟩ : ∃ B, spellB S k wd.data.toList n = B := ⟨_, rfl⟩
  rw [hB]
  have hBB := hB
  unfold spellB at hBB
  obtain ⟨V, hSS⟩ : ∃ V : ByteArray, (⟨S.toArray⟩ : ByteArray) = V := ⟨_, rfl⟩
  have hsz : V.size = S.length := by rw [← hSS]; simp [ByteArray.size]
  have hSl : V.data.toList = S := by rw [← hSS]
  have hN := fun v : World => rnext_any (s := V) (w := v) (by omega)
  rw [hSl] at hN
  obtain ⟨x, hx⟩ : ∃ x, nextR S = x := ⟨_, rfl⟩
  have herr := fun p n => nextR_err S p n
  rw [hx] at hN hBB herr
  have hVd : (⟨#[58, 61]⟩ : ByteArray) = V := by rw [← hSS, hSp]
  have HN := Lib.hid hN
  have HBB := Lib.hid hBB
  have HSS := Lib.hid hSS
  have HSZ := Lib.hid hsz
  have n1 : (k == 1) = false := by rw [beq_eq_false_iff_ne]; omega
  have n2 : (k == 2) = false := by rw [beq_eq_false_iff_ne]; omega
  have n3 : (k == 3) = false := by rw [beq_eq_false_iff_ne]; omega
  have n4 : (k == 4) = false := by rw [beq_eq_false_iff_ne]; omega
  have n5 : (k == 5) = false := by rw [beq_eq_false_iff_ne]; omega
  have n6 : (k == 6) = false := by rw [beq_eq_false_iff_ne]; omega
  have n7 : (k == 7) = true := by rw [h]; rfl
  have n8 : (k == 8) = false := by rw [beq_eq_false_iff_ne]; omega
  have n9 : (k == 9) = false := by rw [beq_eq_false_iff_ne]; omega
  have n10 : (k == 10) = false := by rw [beq_eq_false_iff_ne]; omega
  have n11 : (k == 11) = false := by rw [beq_eq_false_iff_ne]; omega
  have n12 : (k == 12) = false := by rw [beq_eq_false_iff_ne]; omega
  have n13 : (k == 13) = false := by rw [beq_eq_false_iff_ne]; omega
  have n14 : (k == 14) = false := by rw [beq_eq_false_iff_ne]; omega
  have n15 : (k == 15) = false := by rw [beq_eq_false_iff_ne]; omega
  have n16 : (k == 16) = false := by rw [beq_eq_false_iff_ne]; omega
  clear hN hBB hB hx hSl hS hSS hSp hwl hlen hsz h
  cases x with
  | error y =>
    obtain ⟨p, m⟩ := y
    have hm0 := herr p m rfl
    have hmb : (m == 0) = false := by simpa using hm0
    have hBf : B = false := HBB.out.symm
    subst hBf
    clear herr hm0
    go_enter Tryz.func10, Tryz.ntmps10
    go_wp2_with fail
    refine (HN.out _).mono ?_; rintro e w4 ⟨hb4, rfl⟩
    have hT : Tk R9 w.heap.size k wd n 0 w4 := (hb4.block _ (by simp)).trans (Tk.made w)
    have hz4 : w.heap.size < w4.heap.size := Nat.lt_of_lt_of_le (by simp) hb4.size
    have hb4 : Below w.heap.size w w4 := ((Below.refl _ _).alloc (Nat.le_refl _) _).trans (hb4.mono (by simp))
    have g0 := hT.c0
    have g1 := hT.c1
    have g2 := hT.c2
    have g3 := hT.c3
    have gf := hT.fz
    rw [show tokV 0 ⟨0, [], 0, 0⟩ = .agg #[.int .i64 0, .string ⟨#[]⟩, .int .i64 0, .int .i64 0] from rfl]
    go_wp2_with fail
    go_ret2
    exact ⟨hb4.alloc (Nat.le_of_lt hz4) _, by rw [HSS.out]; rfl⟩
  | ok y =>
    obtain ⟨t, m⟩ := y
    clear herr
    obtain ⟨kd, wd', nn, aa, hV, hq⟩ : ∃ (kd : Int) (wd' : ByteArray) (nn aa : Int), tokV 0 t = .agg #[.int .i64 kd, .string wd', .int .i64 nn, .int .i64 aa] ∧ (kd = (t.kind : Int) ∧ wd' = ⟨t.word.toArray⟩ ∧ nn = t.num ∧ aa = ((0 + t.at_ : Nat) : Int)) := ⟨_, _, _, _, rfl, rfl, rfl, rfl, rfl⟩
    have HQ := Lib.hid hq
    have HVV := Lib.hid hV
    clear hq hV
    by_cases hP : kd = k ∧ wd' = wd ∧ nn = n ∧ aa = 0 ∧ (m : Int) = (V.size : Int)
    · have hBt : B = true := by
        rw [← HBB.out]
        obtain ⟨q1, q2, q3, q4⟩ := HQ.out
        obtain ⟨p1, p2, p3, p4, p5⟩ := hP
        have e1 : (t.kind : Int) = k := by rw [← q1]; exact p1
        have e2 : t.word = wd.data.toList := by rw [← p2, q2]
        have e3 : t.num = n := by rw [← q3]; exact p3
        have e4 : t.at_ = 0 := by omega
        have e5 : m = S.length := by have := HSZ.out; omega
        simp [e1, e2, e3, e4, e5]
      subst hBt
      obtain ⟨p1, p2, p3, rfl, p5⟩ := hP
      have p1 : (kd == k) = true := by rw [p1]; simp
      have p2 : (wd'.toList == wd.toList) = true := by rw [p2]; simp
      have p3 : (nn == n) = true := by rw [p3]; simp
      have p5b : ((m : Int) == (V.size : Int)) = true := by rw [p5]; simp
      clear p5
      go_enter Tryz.func10, Tryz.ntmps10
      go_wp2_with fail
      refine (HN.out _).mono ?_; rintro e w4 ⟨hb4, rfl⟩
      have hT : Tk R9 w.heap.size k wd n 0 w4 := (hb4.block _ (by simp)).trans (Tk.made w)
      have hz4 : w.heap.size < w4.heap.size := Nat.lt_of_lt_of_le (by simp) hb4.size
      have hb4 : Below w.heap.size w w4 := ((Below.refl _ _).alloc (Nat.le_refl _) _).trans (hb4.mono (by simp))
      have g0 := hT.c0
      have g1 := hT.c1
      have g2 := hT.c2
      have g3 := hT.c3
      have gf := hT.fz
      rw [HVV.out]
      go_wp2_with fail
      go_ret2
      exact ⟨hb4.alloc (Nat.le_of_lt hz4) _, by rw [HSS.out]; rfl⟩
    · have hBf : B = false := by
        cases B
        · rfl
        · exfalso
          have hb := HBB.out
          simp only [Bool.and_eq_true, decide_eq_true_eq] at hb
          obtain ⟨⟨⟨⟨b1, b2⟩, b3⟩, b4⟩, b5⟩ := hb
          obtain ⟨q1, q2, q3, q4⟩ := HQ.out
          refine hP ⟨q1.trans b1, ?_, q3.trans b3, by omega, by have := HSZ.out; omega⟩
          rw [q2, b2]
      subst hBf
      have HNP := Lib.hid hP
      clear hP
      go_enter Tryz.func10, Tryz.ntmps10
      go_wp2_with fail
      refine (HN.out _).mono ?_; rintro e w4 ⟨hb4, rfl⟩
      have hT : Tk R9 w.heap.size k wd n 0 w4 := (hb4.block _ (by simp)).trans (Tk.made w)
      have hz4 : w.heap.size < w4.heap.size := Nat.lt_of_lt_of_le (by simp) hb4.size
      have hb4 : Below w.heap.size w w4 := ((Below.refl _ _).alloc (Nat.le_refl _) _).trans (hb4.mono (by simp))
      have g0 := hT.c0
      have g1 := hT.c1
      have g2 := hT.c2
      have g3 := hT.c3
      have gf := hT.fz
      rw [HVV.out]
      go_wp2_with fail
      all_goals first
        | (go_ret2; exact ⟨hb4.alloc (Nat.le_of_lt hz4) _, by rw [HSS.out]; rfl⟩)
        | (have hF : ((m : Int) == (V.size : Int)) = false := by
            rw [beq_eq_false_iff_ne]; intro hme
            exact HNP.out ⟨by assumption, bytes_inj (by assumption), by assumption, by assumption, hme⟩
           go_ret2
           exact ⟨hb4.alloc (Nat.le_of_lt hz4) _, by rw [HSS.out]; exact ret2 rfl (congrArg Value.bool hF)⟩)
set_option maxRecDepth 100000 in
set_option maxHeartbeats 3200000 in
theorem rspell_paren (hk : -9223372036854775808 ≤ k ∧ k ≤ 9223372036854775807) (h0 : -9223372036854775808 ≤ n) (h1 : n ≤ 9223372036854775807) (hs : wd.size ≤ 35184372088832) (h : k = 15) :
    Calls Tryz.prog 10 #[.agg #[.int .i64 k, .string wd, .int .i64 n, .int .i64 a]] w (RSpelt (spelledL k wd.data.toList n) (spellB (spelledL k wd.data.toList n) k wd.data.toList n) w) := by
  have hlen := sp_len k n wd.data.toList h0 h1
  have hwl : wd.data.toList.length = wd.size := rfl
  have hSp : spelledL k wd.data.toList n = [35, 40] := by rw [h]; rfl
  obtain ⟨S, hS⟩ : ∃ S, spelledL k wd.data.toList n = S := ⟨_, rfl⟩
  rw [hS] at hlen hSp ⊢
  obtain ⟨B, hB⟩ : ∃ B, spellB S k wd.data.toList n = B := ⟨_, rfl⟩
  rw [hB]
  have hBB := hB
  unfold spellB at hBB
  obtain ⟨V, hSS⟩ : ∃ V : ByteArray, (⟨S.toArray⟩ : ByteArray) = V := ⟨_, rfl⟩
  have hsz : V.size = S.length := by rw [← hSS]; simp [ByteArray.size]
  have hSl : V.data.toList = S := by rw [← hSS]
  have hN := fun v : World => rnext_any (s := V) (w := v) (by omega)
  rw [hSl] at hN
  obtain ⟨x, hx⟩ : ∃ x, nextR S = x := ⟨_, rfl⟩
  have herr := fun p n => nextR_err S p n
  rw [hx] at hN hBB herr
  have hVd : (⟨#[35, 40]⟩ : ByteArray) = V := by rw [← hSS, hSp]
  have HN := Lib.hid hN
  have HBB := Lib.hid hBB
  have HSS := Lib.hid hSS
  have HSZ := Lib.hid hsz
  have n1 : (k == 1) = false := by rw [beq_eq_false_iff_ne]; omega
  have n2 : (k == 2) = false := by rw [beq_eq_false_iff_ne]; omega
  have n3 : (k == 3) = false := by rw [beq_eq_false_iff_ne]; omega
  have n4 : (k == 4) = false := by rw [beq_eq_false_iff_ne]; omega
  have n5 : (k == 5) = false := by rw [beq_eq_false_iff_ne]; omega
  have n6 : (k == 6) = false := by rw [beq_eq_false_iff_ne]; omega
  have n7 : (k == 7) = false := by rw [beq_eq_false_iff_ne]; omega
  have n8 : (k == 8) = false := by rw [beq_eq_false_iff_ne]; omega
  have n9 : (k == 9) = false := by rw [beq_eq_false_iff_ne]; omega
  have n10 : (k == 10) = false := by rw [beq_eq_false_iff_ne]; omega
  have n11 : (k == 11) = false := by rw [beq_eq_false_iff_ne]; omega
  have n12 : (k == 12) = false := by rw [beq_eq_false_iff_ne]; omega
  have n13 : (k == 13) = false := by rw [beq_eq_false_iff_ne]; omega
  have n14 : (k == 14) = false := by rw [beq_eq_false_iff_ne]; omega
  have n15 : (k == 15) = true := by rw [h]; rfl
  have n16 : (k == 16) = false := by rw [beq_eq_false_iff_ne]; omega
  clear hN hBB hB hx hSl hS hSS hSp hwl hlen hsz h
  cases x with
  | error y =>
    obtain ⟨p, m⟩ := y
    have hm0 := herr p m rfl
    have hmb : (m == 0) = false := by simpa using hm0
    have hBf : B = false := HBB.out.symm
    subst hBf
    clear herr hm0
    go_enter Tryz.func10, Tryz.ntmps10
    go_wp2_with fail
    refine (HN.out _).mono ?_; rintro e w4 ⟨hb4, rfl⟩
    have hT : Tk R9 w.heap.size k wd n 0 w4 := (hb4.block _ (by simp)).trans (Tk.made w)
    have hz4 : w.heap.size < w4.heap.size := Nat.lt_of_lt_of_le (by simp) hb4.size
    have hb4 : Below w.heap.size w w4 := ((Below.refl _ _).alloc (Nat.le_refl _) _).trans (hb4.mono (by simp))
    have g0 := hT.c0
    have g1 := hT.c1
    have g2 := hT.c2
    have g3 := hT.c3
    have gf := hT.fz
    rw [show tokV 0 ⟨0, [], 0, 0⟩ = .agg #[.int .i64 0, .string ⟨#[]⟩, .int .i64 0, .int .i64 0] from rfl]
    go_wp2_with fail
    go_ret2
    exact ⟨hb4.alloc (Nat.le_of_lt hz4) _, by rw [HSS.out]; rfl⟩
  | ok y =>
    obtain ⟨t, m⟩ := y
    clear herr
    obtain ⟨kd, wd', nn, aa, hV, hq⟩ : ∃ (kd : Int) (wd' : ByteArray) (nn aa : Int), tokV 0 t = .agg #[.int .i64 kd, .string wd', .int .i64 nn, .int .i64 aa] ∧ (kd = (t.kind : Int) ∧ wd' = ⟨t.word.toArray⟩ ∧ nn = t.num ∧ aa = ((0 + t.at_ : Nat) : Int)) := ⟨_, _, _, _, rfl, rfl, rfl, rfl, rfl⟩
    have HQ := Lib.hid hq
    have HVV := Lib.hid hV
    clear hq hV
    by_cases hP : kd = k ∧ wd' = wd ∧ nn = n ∧ aa = 0 ∧ (m : Int) = (V.size : Int)
    · have hBt : B = true := by
        rw [← HBB.out]
        obtain ⟨q1, q2, q3, q4⟩ := HQ.out
        obtain ⟨p1, p2, p3, p4, p5⟩ := hP
        have e1 : (t.kind : Int) = k := by rw [← q1]; exact p1
        have e2 : t.word = wd.data.toList := by rw [← p2, q2]
        have e3 : t.num = n := by rw [← q3]; exact p3
        have e4 : t.at_ = 0 := by omega
        have e5 : m = S.length := by have := HSZ.out; omega
        simp [e1, e2, e3, e4, e5]
      subst hBt
      obtain ⟨p1, p2, p3, rfl, p5⟩ := hP
      have p1 : (kd == k) = true := by rw [p1]; simp
      have p2 : (wd'.toList == wd.toList) = true := by rw [p2]; simp
      have p3 : (nn == n) = true := by rw [p3]; simp
      have p5b : ((m : Int) == (V.size : Int)) = true := by rw [p5]; simp
      clear p5
      go_enter Tryz.func10, Tryz.ntmps10
      go_wp2_with fail
      refine (HN.out _).mono ?_; rintro e w4 ⟨hb4, rfl⟩
      have hT : Tk R9 w.heap.size k wd n 0 w4 := (hb4.block _ (by simp)).trans (Tk.made w)
      have hz4 : w.heap.size < w4.heap.size := Nat.lt_of_lt_of_le (by simp) hb4.size
      have hb4 : Below w.heap.size w w4 := ((Below.refl _ _).alloc (Nat.le_refl _) _).trans (hb4.mono (by simp))
      have g0 := hT.c0
      have g1 := hT.c1
      have g2 := hT.c2
      have g3 := hT.c3
      have gf := hT.fz
      rw [HVV.out]
      go_wp2_with fail
      go_ret2
      exact ⟨hb4.alloc (Nat.le_of_lt hz4) _, by rw [HSS.out]; rfl⟩
    · have hBf : B = false := by
        cases B
        · rfl
        · exfalso
          have hb := HBB.out
          simp only [Bool.and_eq_true, decide_eq_true_eq] at hb
          obtain ⟨⟨⟨⟨b1, b2⟩, b3⟩, b4⟩, b5⟩ := hb
          obtain ⟨q1, q2, q3, q4⟩ := HQ.out
          refine hP ⟨q1.trans b1, ?_, q3.trans b3, by omega, by have := HSZ.out; omega⟩
          rw [q2, b2]
      subst hBf
      have HNP := Lib.hid hP
      clear hP
      go_enter Tryz.func10, Tryz.ntmps10
      go_wp2_with fail
      refine (HN.out _).mono ?_; rintro e w4 ⟨hb4, rfl⟩
      have hT : Tk R9 w.heap.size k wd n 0 w4 := (hb4.block _ (by simp)).trans (Tk.made w)
      have hz4 : w.heap.size < w4.heap.size := Nat.lt_of_lt_of_le (by simp) hb4.size
      have hb4 : Below w.heap.size w w4 := ((Below.refl _ _).alloc (Nat.le_refl _) _).trans (hb4.mono (by simp))
      have g0 := hT.c0
      have g1 := hT.c1
      have g2 := hT.c2
      have g3 := hT.c3
      have gf := hT.fz
      rw [HVV.out]
      go_wp2_with fail
      all_goals first
        | (go_ret2; exact ⟨hb4.alloc (Nat.le_of_lt hz4) _, by rw [HSS.out]; rfl⟩)
        | (have hF : ((m : Int) == (V.size : Int)) = false := by
            rw [beq_eq_false_iff_ne]; intro hme
            exact HNP.out ⟨by assumption, bytes_inj (by assumption), by assumption, by assumption, hme⟩
           go_ret2
           exact ⟨hb4.alloc (Nat.le_of_lt hz4) _, by rw [HSS.out]; exact ret2 rfl (congrArg Value.bool hF)⟩)
set_option maxRecDepth 100000 in
set_option maxHeartbeats 3200000 in
theorem rspell_colon (hk : -9223372036854775808 ≤ k ∧ k ≤ 9223372036854775807) (h0 : -9223372036854775808 ≤ n) (h1 : n ≤ 9223372036854775807) (hs : wd.size ≤ 35184372088832) (h : k = 16) :
    Calls Tryz.prog 10 #[.agg #[.int .i64 k, .string wd, .int .i64 n, .int .i64 a]] w (RSpelt (spelledL k wd.data.toList n) (spellB (spelledL k wd.data.toList n) k wd.data.toList n) w) := by
  have hlen := sp_len k n wd.data.toList h0 h1
  have hwl : wd.data.toList.length = wd.size := rfl
  have hSp : spelledL k wd.data.toList n = [58] := by rw [h]; rfl
  obtain ⟨S, hS⟩ : ∃ S, spelledL k wd.data.toList n = S := ⟨_, rfl⟩
  rw [hS] at hlen hSp ⊢
  obtain ⟨B, hB⟩ : ∃ B, spellB S k wd.data.toList n = B := ⟨_, rfl⟩
  rw [hB]
  have hBB := hB
  unfold spellB at hBB
  obtain ⟨V, hSS⟩ : ∃ V : ByteArray, (⟨S.toArray⟩ : ByteArray) = V := ⟨_, rfl⟩
  have hsz : V.size = S.length := by rw [← hSS]; simp [ByteArray.size]
  have hSl : V.data.toList = S := by rw [← hSS]
  have hN := fun v : World => rnext_any (s := V) (w := v) (by omega)
  rw [hSl] at hN
  obtain ⟨x, hx⟩ : ∃ x, nextR S = x := ⟨_, rfl⟩
  have herr := fun p n => nextR_err S p n
  rw [hx] at hN hBB herr
  have hVd : (⟨#[58]⟩ : ByteArray) = V := by rw [← hSS, hSp]
  have HN := Lib.hid hN
  have HBB := Lib.hid hBB
  have HSS := Lib.hid hSS
  have HSZ := Lib.hid hsz
  have n1 : (k == 1) = false := by rw [beq_eq_false_iff_ne]; omega
  have n2 : (k == 2) = false := by rw [beq_eq_false_iff_ne]; omega
  have n3 : (k == 3) = false := by rw [beq_eq_false_iff_ne]; omega
  have n4 : (k == 4) = false := by rw [beq_eq_false_iff_ne]; omega
  have n5 : (k == 5) = false := by rw [beq_eq_false_iff_ne]; omega
  have n6 : (k == 6) = false := by rw [beq_eq_false_iff_ne]; omega
  have n7 : (k == 7) = false := by rw [beq_eq_false_iff_ne]; omega
  have n8 : (k == 8) = false := by rw [beq_eq_false_iff_ne]; omega
  have n9 : (k == 9) = false := by rw [beq_eq_false_iff_ne]; omega
  have n10 : (k == 10) = false := by rw [beq_eq_false_iff_ne]; omega
  have n11 : (k == 11) = false := by rw [beq_eq_false_iff_ne]; omega
  have n12 : (k == 12) = false := by rw [beq_eq_false_iff_ne]; omega
  have n13 : (k == 13) = false := by rw [beq_eq_false_iff_ne]; omega
  have n14 : (k == 14) = false := by rw [beq_eq_false_iff_ne]; omega
  have n15 : (k == 15) = false := by rw [beq_eq_false_iff_ne]; omega
  have n16 : (k == 16) = true := by rw [h]; rfl
  clear hN hBB hB hx hSl hS hSS hSp hwl hlen hsz h
  cases x with
  | error y =>
    obtain ⟨p, m⟩ := y
    have hm0 := herr p m rfl
    have hmb : (m == 0) = false := by simpa using hm0
    have hBf : B = false := HBB.out.symm
    subst hBf
    clear herr hm0
    go_enter Tryz.func10, Tryz.ntmps10
    go_wp2_with fail
    refine (HN.out _).mono ?_; rintro e w4 ⟨hb4, rfl⟩
    have hT : Tk R9 w.heap.size k wd n 0 w4 := (hb4.block _ (by simp)).trans (Tk.made w)
    have hz4 : w.heap.size < w4.heap.size := Nat.lt_of_lt_of_le (by simp) hb4.size
    have hb4 : Below w.heap.size w w4 := ((Below.refl _ _).alloc (Nat.le_refl _) _).trans (hb4.mono (by simp))
    have g0 := hT.c0
    have g1 := hT.c1
    have g2 := hT.c2
    have g3 := hT.c3
    have gf := hT.fz
    rw [show tokV 0 ⟨0, [], 0, 0⟩ = .agg #[.int .i64 0, .string ⟨#[]⟩, .int .i64 0, .int .i64 0] from rfl]
    go_wp2_with fail
    go_ret2
    exact ⟨hb4.alloc (Nat.le_of_lt hz4) _, by rw [HSS.out]; rfl⟩
  | ok y =>
    obtain ⟨t, m⟩ := y
    clear herr
    obtain ⟨kd, wd', nn, aa, hV, hq⟩ : ∃ (kd : Int) (wd' : ByteArray) (nn aa : Int), tokV 0 t = .agg #[.int .i64 kd, .string wd', .int .i64 nn, .int .i64 aa] ∧ (kd = (t.kind : Int) ∧ wd' = ⟨t.word.toArray⟩ ∧ nn = t.num ∧ aa = ((0 + t.at_ : Nat) : Int)) := ⟨_, _, _, _, rfl, rfl, rfl, rfl, rfl⟩
    have HQ := Lib.hid hq
    have HVV := Lib.hid hV
    clear hq hV
    by_cases hP : kd = k ∧ wd' = wd ∧ nn = n ∧ aa = 0 ∧ (m : Int) = (V.size : Int)
    · have hBt : B = true := by
        rw [← HBB.out]
        obtain ⟨q1, q2, q3, q4⟩ := HQ.out
        obtain ⟨p1, p2, p3, p4, p5⟩ := hP
        have e1 : (t.kind : Int) = k := by rw [← q1]; exact p1
        have e2 : t.word = wd.data.toList := by rw [← p2, q2]
        have e3 : t.num = n := by rw [← q3]; exact p3
        have e4 : t.at_ = 0 := by omega
        have e5 : m = S.length := by have := HSZ.out; omega
        simp [e1, e2, e3, e4, e5]
      subst hBt
      obtain ⟨p1, p2, p3, rfl, p5⟩ := hP
      have p1 : (kd == k) = true := by rw [p1]; simp
      have p2 : (wd'.toList == wd.toList) = true := by rw [p2]; simp
      have p3 : (nn == n) = true := by rw [p3]; simp
      have p5b : ((m : Int) == (V.size : Int)) = true := by rw [p5]; simp
      clear p5
      go_enter Tryz.func10, Tryz.ntmps10
      go_wp2_with fail
      refine (HN.out _).mono ?_; rintro e w4 ⟨hb4, rfl⟩
      have hT : Tk R9 w.heap.size k wd n 0 w4 := (hb4.block _ (by simp)).trans (Tk.made w)
      have hz4 : w.heap.size < w4.heap.size := Nat.lt_of_lt_of_le (by simp) hb4.size
      have hb4 : Below w.heap.size w w4 := ((Below.refl _ _).alloc (Nat.le_refl _) _).trans (hb4.mono (by simp))
      have g0 := hT.c0
      have g1 := hT.c1
      have g2 := hT.c2
      have g3 := hT.c3
      have gf := hT.fz
      rw [HVV.out]
      go_wp2_with fail
      go_ret2
      exact ⟨hb4.alloc (Nat.le_of_lt hz4) _, by rw [HSS.out]; rfl⟩
    · have hBf : B = false := by
        cases B
        · rfl
        · exfalso
          have hb := HBB.out
          simp only [Bool.and_eq_true, decide_eq_true_eq] at hb
          obtain ⟨⟨⟨⟨b1, b2⟩, b3⟩, b4⟩, b5⟩ := hb
          obtain ⟨q1, q2, q3, q4⟩ := HQ.out
          refine hP ⟨q1.trans b1, ?_, q3.trans b3, by omega, by have := HSZ.out; omega⟩
          rw [q2, b2]
      subst hBf
      have HNP := Lib.hid hP
      clear hP
      go_enter Tryz.func10, Tryz.ntmps10
      go_wp2_with fail
      refine (HN.out _).mono ?_; rintro e w4 ⟨hb4, rfl⟩
      have hT : Tk R9 w.heap.size k wd n 0 w4 := (hb4.block _ (by simp)).trans (Tk.made w)
      have hz4 : w.heap.size < w4.heap.size := Nat.lt_of_lt_of_le (by simp) hb4.size
      have hb4 : Below w.heap.size w w4 := ((Below.refl _ _).alloc (Nat.le_refl _) _).trans (hb4.mono (by simp))
      have g0 := hT.c0
      have g1 := hT.c1
      have g2 := hT.c2
      have g3 := hT.c3
      have gf := hT.fz
      rw [HVV.out]
      go_wp2_with fail
      all_goals first
        | (go_ret2; exact ⟨hb4.alloc (Nat.le_of_lt hz4) _, by rw [HSS.out]; rfl⟩)
        | (have hF : ((m : Int) == (V.size : Int)) = false := by
            rw [beq_eq_false_iff_ne]; intro hme
            exact HNP.out ⟨by assumption, bytes_inj (by assumption), by assumption, by assumption, hme⟩
           go_ret2
           exact ⟨hb4.alloc (Nat.le_of_lt hz4) _, by rw [HSS.out]; exact ret2 rfl (congrArg Value.bool hF)⟩)
set_option maxRecDepth 100000 in
set_option maxHeartbeats 3200000 in
theorem rspell_none (hk : -9223372036854775808 ≤ k ∧ k ≤ 9223372036854775807) (h0 : -9223372036854775808 ≤ n) (h1 : n ≤ 9223372036854775807) (hs : wd.size ≤ 35184372088832) (h : k ≤ 0 ∨ 17 ≤ k) :
    Calls Tryz.prog 10 #[.agg #[.int .i64 k, .string wd, .int .i64 n, .int .i64 a]] w (RSpelt (spelledL k wd.data.toList n) (spellB (spelledL k wd.data.toList n) k wd.data.toList n) w) := by
  have hlen := sp_len k n wd.data.toList h0 h1
  have hwl : wd.data.toList.length = wd.size := rfl
  have hSp : spelledL k wd.data.toList n = [] := by unfold spelledL; rw [if_neg (by omega), if_neg (by omega), if_neg (by omega), if_neg (by omega), if_neg (by omega), if_neg (by omega), if_neg (by omega), if_neg (by omega)]
  obtain ⟨S, hS⟩ : ∃ S, spelledL k wd.data.toList n = S := ⟨_, rfl⟩
  rw [hS] at hlen hSp ⊢
  obtain ⟨B, hB⟩ : ∃ B, spellB S k wd.data.toList n = B := ⟨_, rfl⟩
  rw [hB]
  have hBB := hB
  unfold spellB at hBB
  obtain ⟨V, hSS⟩ : ∃ V : ByteArray, (⟨S.toArray⟩ : ByteArray) = V := ⟨_, rfl⟩
  have hsz : V.size = S.length := by rw [← hSS]; simp [ByteArray.size]
  have hSl : V.data.toList = S := by rw [← hSS]
  have hN := fun v : World => rnext_any (s := V) (w := v) (by omega)
  rw [hSl] at hN
  obtain ⟨x, hx⟩ : ∃ x, nextR S = x := ⟨_, rfl⟩
  have herr := fun p n => nextR_err S p n
  rw [hx] at hN hBB herr
  have hVd : (⟨#[]⟩ : ByteArray) = V := by rw [← hSS, hSp]
  have HN := Lib.hid hN
  have HBB := Lib.hid hBB
  have HSS := Lib.hid hSS
  have HSZ := Lib.hid hsz
  have n1 : (k == 1) = false := by rw [beq_eq_false_iff_ne]; omega
  have n2 : (k == 2) = false := by rw [beq_eq_false_iff_ne]; omega
  have n3 : (k == 3) = false := by rw [beq_eq_false_iff_ne]; omega
  have n4 : (k == 4) = false := by rw [beq_eq_false_iff_ne]; omega
  have n5 : (k == 5) = false := by rw [beq_eq_false_iff_ne]; omega
  have n6 : (k == 6) = false := by rw [beq_eq_false_iff_ne]; omega
  have n7 : (k == 7) = false := by rw [beq_eq_false_iff_ne]; omega
  have n8 : (k == 8) = false := by rw [beq_eq_false_iff_ne]; omega
  have n9 : (k == 9) = false := by rw [beq_eq_false_iff_ne]; omega
  have n10 : (k == 10) = false := by rw [beq_eq_false_iff_ne]; omega
  have n11 : (k == 11) = false := by rw [beq_eq_false_iff_ne]; omega
  have n12 : (k == 12) = false := by rw [beq_eq_false_iff_ne]; omega
  have n13 : (k == 13) = false := by rw [beq_eq_false_iff_ne]; omega
  have n14 : (k == 14) = false := by rw [beq_eq_false_iff_ne]; omega
  have n15 : (k == 15) = false := by rw [beq_eq_false_iff_ne]; omega
  have n16 : (k == 16) = false := by rw [beq_eq_false_iff_ne]; omega
  clear hN hBB hB hx hSl hS hSS hSp hwl hlen hsz h
  cases x with
  | error y =>
    obtain ⟨p, m⟩ := y
    have hm0 := herr p m rfl
    have hmb : (m == 0) = false := by simpa using hm0
    have hBf : B = false := HBB.out.symm
    subst hBf
    clear herr hm0
    go_enter Tryz.func10, Tryz.ntmps10
    go_wp2_with fail
    refine (HN.out _).mono ?_; rintro e w4 ⟨hb4, rfl⟩
    have hT : Tk R9 w.heap.size k wd n 0 w4 := (hb4.block _ (by simp)).trans (Tk.made w)
    have hz4 : w.heap.size < w4.heap.size := Nat.lt_of_lt_of_le (by simp) hb4.size
    have hb4 : Below w.heap.size w w4 := ((Below.refl _ _).alloc (Nat.le_refl _) _).trans (hb4.mono (by simp))
    have g0 := hT.c0
    have g1 := hT.c1
    have g2 := hT.c2
    have g3 := hT.c3
    have gf := hT.fz
    rw [show tokV 0 ⟨0, [], 0, 0⟩ = .agg #[.int .i64 0, .string ⟨#[]⟩, .int .i64 0, .int .i64 0] from rfl]
    go_wp2_with fail
    go_ret2
    exact ⟨hb4.alloc (Nat.le_of_lt hz4) _, by rw [HSS.out]; rfl⟩
  | ok y =>
    obtain ⟨t, m⟩ := y
    clear herr
    obtain ⟨kd, wd', nn, aa, hV, hq⟩ : ∃ (kd : Int) (wd' : ByteArray) (nn aa : Int), tokV 0 t = .agg #[.int .i64 kd, .string wd', .int .i64 nn, .int .i64 aa] ∧ (kd = (t.kind : Int) ∧ wd' = ⟨t.word.toArray⟩ ∧ nn = t.num ∧ aa = ((0 + t.at_ : Nat) : Int)) := ⟨_, _, _, _, rfl, rfl, rfl, rfl, rfl⟩
    have HQ := Lib.hid hq
    have HVV := Lib.hid hV
    clear hq hV
    by_cases hP : kd = k ∧ wd' = wd ∧ nn = n ∧ aa = 0 ∧ (m : Int) = (V.size : Int)
    · have hBt : B = true := by
        rw [← HBB.out]
        obtain ⟨q1, q2, q3, q4⟩ := HQ.out
        obtain ⟨p1, p2, p3, p4, p5⟩ := hP
        have e1 : (t.kind : Int) = k := by rw [← q1]; exact p1
        have e2 : t.word = wd.data.toList := by rw [← p2, q2]
        have e3 : t.num = n := by rw [← q3]; exact p3
        have e4 : t.at_ = 0 := by omega
        have e5 : m = S.length := by have := HSZ.out; omega
        simp [e1, e2, e3, e4, e5]
      subst hBt
      obtain ⟨p1, p2, p3, rfl, p5⟩ := hP
      have p1 : (kd == k) = true := by rw [p1]; simp
      have p2 : (wd'.toList == wd.toList) = true := by rw [p2]; simp
      have p3 : (nn == n) = true := by rw [p3]; simp
      have p5b : ((m : Int) == (V.size : Int)) = true := by rw [p5]; simp
      clear p5
      go_enter Tryz.func10, Tryz.ntmps10
      go_wp2_with fail
      refine (HN.out _).mono ?_; rintro e w4 ⟨hb4, rfl⟩
      have hT : Tk R9 w.heap.size k wd n 0 w4 := (hb4.block _ (by simp)).trans (Tk.made w)
      have hz4 : w.heap.size < w4.heap.size := Nat.lt_of_lt_of_le (by simp) hb4.size
      have hb4 : Below w.heap.size w w4 := ((Below.refl _ _).alloc (Nat.le_refl _) _).trans (hb4.mono (by simp))
      have g0 := hT.c0
      have g1 := hT.c1
      have g2 := hT.c2
      have g3 := hT.c3
      have gf := hT.fz
      rw [HVV.out]
      go_wp2_with fail
      go_ret2
      exact ⟨hb4.alloc (Nat.le_of_lt hz4) _, by rw [HSS.out]; rfl⟩
    · have hBf : B = false := by
        cases B
        · rfl
        · exfalso
          have hb := HBB.out
          simp only [Bool.and_eq_true, decide_eq_true_eq] at hb
          obtain ⟨⟨⟨⟨b1, b2⟩, b3⟩, b4⟩, b5⟩ := hb
          obtain ⟨q1, q2, q3, q4⟩ := HQ.out
          refine hP ⟨q1.trans b1, ?_, q3.trans b3, by omega, by have := HSZ.out; omega⟩
          rw [q2, b2]
      subst hBf
      have HNP := Lib.hid hP
      clear hP
      go_enter Tryz.func10, Tryz.ntmps10
      go_wp2_with fail
      refine (HN.out _).mono ?_; rintro e w4 ⟨hb4, rfl⟩
      have hT : Tk R9 w.heap.size k wd n 0 w4 := (hb4.block _ (by simp)).trans (Tk.made w)
      have hz4 : w.heap.size < w4.heap.size := Nat.lt_of_lt_of_le (by simp) hb4.size
      have hb4 : Below w.heap.size w w4 := ((Below.refl _ _).alloc (Nat.le_refl _) _).trans (hb4.mono (by simp))
      have g0 := hT.c0
      have g1 := hT.c1
      have g2 := hT.c2
      have g3 := hT.c3
      have gf := hT.fz
      rw [HVV.out]
      go_wp2_with fail
      all_goals first
        | (go_ret2; exact ⟨hb4.alloc (Nat.le_of_lt hz4) _, by rw [HSS.out]; rfl⟩)
        | (have hF : ((m : Int) == (V.size : Int)) = false := by
            rw [beq_eq_false_iff_ne]; intro hme
            exact HNP.out ⟨by assumption, bytes_inj (by assumption), by assumption, by assumption, hme⟩
           go_ret2
           exact ⟨hb4.alloc (Nat.le_of_lt hz4) _, by rw [HSS.out]; exact ret2 rfl (congrArg Value.bool hF)⟩)
end Lx
end Go.Proofs.YtpfaldcfnhjlgaaGreatDoor
namespace Go.Proofs.YtpfaldcfnhjlgaaGreatDoor
open Go.RowKit
namespace Lx
variable {k n a : Int} {wd : ByteArray} {w : World}
set_option maxRecDepth 100000 in
set_option maxHeartbeats 3200000 in
theorem rspell_mark8 (hk : -9223372036854775808 ≤ k ∧ k ≤ 9223372036854775807) (h0 : -9223372036854775808 ≤ n) (h1 : n ≤ 9223372036854775807) (hs : wd.size ≤ 35184372088832) (h : k = 8) :
    Calls Tryz.prog 10 #[.agg #[.int .i64 k, .string wd, .int .i64 n, .int .i64 a]] w (RSpelt (spelledL k wd.data.toList n) (spellB (spelledL k wd.data.toList n) k wd.data.toList n) w) := by
  have hlen := sp_len k n wd.data.toList h0 h1
  have hwl : wd.data.toList.length = wd.size := rfl
  have hSp : spelledL k wd.data.toList n = [94] := by rw [h]; rfl
  obtain ⟨S, hS⟩ : ∃ S, spelledL k wd.data.toList n = S := ⟨_, rfl⟩
  rw [hS] at hlen hSp ⊢
  obtain ⟨B, hB⟩ : ∃ B, spellB S k wd.data.toList n = B := ⟨_, rfl⟩
  rw [hB]
  have hBB := hB
  unfold spellB at hBB
  obtain ⟨V, hSS⟩ : ∃ V : ByteArray, (⟨S.toArray⟩ : ByteArray) = V := ⟨_, rfl⟩
  have hsz : V.size = S.length := by rw [← hSS]; simp [ByteArray.size]
  have hSl : V.data.toList = S := by rw [← hSS]
  have hN := fun v : World => rnext_any (s := V) (w := v) (by omega)
  rw [hSl] at hN
  obtain ⟨x, hx⟩ : ∃ x, nextR S = x := ⟨_, rfl⟩
  have herr := fun p n => nextR_err S p n
  rw [hx] at hN hBB herr
  have hVd : (⟨#[94, 46, 59, 40, 41, 91, 93]⟩ : ByteArray).extract 0 1 = V := by rw [← hSS, hSp]; rfl
  have hw8 : IntKind.i64.wrap (k - 8) = 0 := by rw [h]; rfl
  have hw7 : IntKind.i64.wrap (k - 7) = 1 := by rw [h]; rfl
  have HN := Lib.hid hN
  have HBB := Lib.hid hBB
  have HSS := Lib.hid hSS
  have HSZ := Lib.hid hsz
  have n1 : (k == 1) = false := by rw [beq_eq_false_iff_ne]; omega
  have n2 : (k == 2) = false := by rw [beq_eq_false_iff_ne]; omega
  have n3 : (k == 3) = false := by rw [beq_eq_false_iff_ne]; omega
  have n4 : (k == 4) = false := by rw [beq_eq_false_iff_ne]; omega
  have n5 : (k == 5) = false := by rw [beq_eq_false_iff_ne]; omega
  have n6 : (k == 6) = false := by rw [beq_eq_false_iff_ne]; omega
  have n7 : (k == 7) = false := by rw [beq_eq_false_iff_ne]; omega
  have n8 : (k == 8) = true := by rw [h]; rfl
  have n9 : (k == 9) = false := by rw [beq_eq_false_iff_ne]; omega
  have n10 : (k == 10) = false := by rw [beq_eq_false_iff_ne]; omega
  have n11 : (k == 11) = false := by rw [beq_eq_false_iff_ne]; omega
  have n12 : (k == 12) = false := by rw [beq_eq_false_iff_ne]; omega
  have n13 : (k == 13) = false := by rw [beq_eq_false_iff_ne]; omega
  have n14 : (k == 14) = false := by rw [beq_eq_false_iff_ne]; omega
  have n15 : (k == 15) = false := by rw [beq_eq_false_iff_ne]; omega
  have n16 : (k == 16) = false := by rw [beq_eq_false_iff_ne]; omega
  clear hN hBB hB hx hSl hS hSS hSp hwl hlen hsz h
  cases x with
  | error y =>
    obtain ⟨p, m⟩ := y
    have hm0 := herr p m rfl
    have hmb : (m == 0) = false := by simpa using hm0
    have hBf : B = false := HBB.out.symm
    subst hBf
    clear herr hm0
    go_enter Tryz.func10, Tryz.ntmps10
    go_wp2_with fail
    refine (HN.out _).mono ?_; rintro e w4 ⟨hb4, rfl⟩
    have hT : Tk R9 w.heap.size k wd n 0 w4 := (hb4.block _ (by simp)).trans (Tk.made w)
    have hz4 : w.heap.size < w4.heap.size := Nat.lt_of_lt_of_le (by simp) hb4.size
    have hb4 : Below w.heap.size w w4 := ((Below.refl _ _).alloc (Nat.le_refl _) _).trans (hb4.mono (by simp))
    have g0 := hT.c0
    have g1 := hT.c1
    have g2 := hT.c2
    have g3 := hT.c3
    have gf := hT.fz
    rw [show tokV 0 ⟨0, [], 0, 0⟩ = .agg #[.int .i64 0, .string ⟨#[]⟩, .int .i64 0, .int .i64 0] from rfl]
    go_wp2_with fail
    go_ret2
    exact ⟨hb4.alloc (Nat.le_of_lt hz4) _, by rw [HSS.out]; rfl⟩
  | ok y =>
    obtain ⟨t, m⟩ := y
    clear herr
    obtain ⟨kd, wd', nn, aa, hV, hq⟩ : ∃ (kd : Int) (wd' : ByteArray) (nn aa : Int), tokV 0 t = .agg #[.int .i64 kd, .string wd', .int .i64 nn, .int .i64 aa] ∧ (kd = (t.kind : Int) ∧ wd' = ⟨t.word.toArray⟩ ∧ nn = t.num ∧ aa = ((0 + t.at_ : Nat) : Int)) := ⟨_, _, _, _, rfl, rfl, rfl, rfl, rfl⟩
    have HQ := Lib.hid hq
    have HVV := Lib.hid hV
    clear hq hV
    by_cases hP : kd = k ∧ wd' = wd ∧ nn = n ∧ aa = 0 ∧ (m : Int) = (V.size : Int)
    · have hBt : B = true := by
        rw [← HBB.out]
        obtain ⟨q1, q2, q3, q4⟩ := HQ.out
        obtain ⟨p1, p2, p3, p4, p5⟩ := hP
        have e1 : (t.kind : Int) = k := by rw [← q1]; exact p1
        have e2 : t.word = wd.data.toList := by rw [← p2, q2]
        have e3 : t.num = n := by rw [← q3]; exact p3
        have e4 : t.at_ = 0 := by omega
        have e5 : m = S.length := by have := HSZ.out; omega
        simp [e1, e2, e3, e4, e5]
      subst hBt
      obtain ⟨p1, p2, p3, rfl, p5⟩ := hP
      have p1 : (kd == k) = true := by rw [p1]; simp
      have p2 : (wd'.toList == wd.toList) = true := by rw [p2]; simp
      have p3 : (nn == n) = true := by rw [p3]; simp
      have p5b : ((m : Int) == (V.size : Int)) = true := by rw [p5]; simp
      clear p5
      go_enter Tryz.func10, Tryz.ntmps10
      go_wp2_with fail
      refine (HN.out _).mono ?_; rintro e w4 ⟨hb4, rfl⟩
      have hT : Tk R9 w.heap.size k wd n 0 w4 := (hb4.block _ (by simp)).trans (Tk.made w)
      have hz4 : w.heap.size < w4.heap.size := Nat.lt_of_lt_of_le (by simp) hb4.size
      have hb4 : Below w.heap.size w w4 := ((Below.refl _ _).alloc (Nat.le_refl _) _).trans (hb4.mono (by simp))
      have g0 := hT.c0
      have g1 := hT.c1
      have g2 := hT.c2
      have g3 := hT.c3
      have gf := hT.fz
      rw [HVV.out]
      go_wp2_with fail
      go_ret2
      exact ⟨hb4.alloc (Nat.le_of_lt hz4) _, by rw [HSS.out]; rfl⟩
    · have hBf : B = false := by
        cases B
        · rfl
        · exfalso
          have hb := HBB.out
          simp only [Bool.and_eq_true, decide_eq_true_eq] at hb
          obtain ⟨⟨⟨⟨b1, b2⟩, b3⟩, b4⟩, b5⟩ := hb
          obtain ⟨q1, q2, q3, q4⟩ := HQ.out
          refine hP ⟨q1.trans b1, ?_, q3.trans b3, by omega, by have := HSZ.out; omega⟩
          rw [q2, b2]
      subst hBf
      have HNP := Lib.hid hP
      clear hP
      go_enter Tryz.func10, Tryz.ntmps10
      go_wp2_with fail
      refine (HN.out _).mono ?_; rintro e w4 ⟨hb4, rfl⟩
      have hT : Tk R9 w.heap.size k wd n 0 w4 := (hb4.block _ (by simp)).trans (Tk.made w)
      have hz4 : w.heap.size < w4.heap.size := Nat.lt_of_lt_of_le (by simp) hb4.size
      have hb4 : Below w.heap.size w w4 := ((Below.refl _ _).alloc (Nat.le_refl _) _).trans (hb4.mono (by simp))
      have g0 := hT.c0
      have g1 := hT.c1
      have g2 := hT.c2
      have g3 := hT.c3
      have gf := hT.fz
      rw [HVV.out]
      go_wp2_with fail
      all_goals first
        | (go_ret2; exact ⟨hb4.alloc (Nat.le_of_lt hz4) _, by rw [HSS.out]; rfl⟩)
        | (have hF : ((m : Int) == (V.size : Int)) = false := by
            rw [beq_eq_false_iff_ne]; intro hme
            exact HNP.out ⟨by assumption, bytes_inj (by assumption), by assumption, by assumption, hme⟩
           go_ret2
           exact ⟨hb4.alloc (Nat.le_of_lt hz4) _, by rw [HSS.out]; exact ret2 rfl (congrArg Value.bool hF)⟩)
set_option maxRecDepth 100000 in
set_option maxHeartbeats 3200000 in
theorem rspell_mark9 (hk : -9223372036854775808 ≤ k ∧ k ≤ 9223372036854775807) (h0 : -9223372036854775808 ≤ n) (h1 : n ≤ 9223372036854775807) (hs : wd.size ≤ 35184372088832) (h : k = 9) :
    Calls Tryz.prog 10 #[.agg #[.int .i64 k, .string wd, .int .i64 n, .int .i64 a]] w (RSpelt (spelledL k wd.data.toList n) (spellB (spelledL k wd.data.toList n) k wd.data.toList n) w) := by
  have hlen := sp_len k n wd.data.toList h0 h1
  have hwl : wd.data.toList.length = wd.size := rfl
  have hSp : spelledL k wd.data.toList n = [46] := by rw [h]; rfl
  obtain ⟨S, hS⟩ : ∃ S, spelledL k wd.data.toList n = S := ⟨_, rfl⟩
  rw [hS] at hlen hSp ⊢
  obtain ⟨B, hB⟩ : ∃ B, spellB S k wd.data.toList n = B := ⟨_, rfl⟩
  rw [hB]
  have hBB := hB
  unfold spellB at hBB
  obtain ⟨V, hSS⟩ : ∃ V : ByteArray, (⟨S.toArray⟩ : ByteArray) = V := ⟨_, rfl⟩
  have hsz : V.size = S.length := by rw [← hSS]; simp [ByteArray.size]
  have hSl : V.data.toList = S := by rw [← hSS]
  have hN := fun v : World => rnext_any (s := V) (w := v) (by omega)
  rw [hSl] at hN
  obtain ⟨x, hx⟩ : ∃ x, nextR S = x := ⟨_, rfl⟩
  have herr := fun p n => nextR_err S p n
  rw [hx] at hN hBB herr
  have hVd : (⟨#[94, 46, 59, 40, 41, 91, 93]⟩ : ByteArray).extract 1 2 = V := by rw [← hSS, hSp]; rfl
  have hw8 : IntKind.i64.wrap (k - 8) = 1 := by rw [h]; rfl
  have hw7 : IntKind.i64.wrap (k - 7) = 2 := by rw [h]; rfl
  have HN := Lib.hid hN
  have HBB := Lib.hid hBB
  have HSS := Lib.hid hSS
  have HSZ := Lib.hid hsz
  have n1 : (k == 1) = false := by rw [beq_eq_false_iff_ne]; omega
  have n2 : (k == 2) = false := by rw [beq_eq_false_iff_ne]; omega
  have n3 : (k == 3) = false := by rw [beq_eq_false_iff_ne]; omega
  have n4 : (k == 4) = false := by rw [beq_eq_false_iff_ne]; omega
  have n5 : (k == 5) = false := by rw [beq_eq_false_iff_ne]; omega
  have n6 : (k == 6) = false := by rw [beq_eq_false_iff_ne]; omega
  have n7 : (k == 7) = false := by rw [beq_eq_false_iff_ne]; omega
  have n8 : (k == 8) = false := by rw [beq_eq_false_iff_ne]; omega
  have n9 : (k == 9) = true := by rw [h]; rfl
  have n10 : (k == 10) = false := by rw [beq_eq_false_iff_ne]; omega
  have n11 : (k == 11) = false := by rw [beq_eq_false_iff_ne]; omega
  have n12 : (k == 12) = false := by rw [beq_eq_false_iff_ne]; omega
  have n13 : (k == 13) = false := by rw [beq_eq_false_iff_ne]; omega
  have n14 : (k == 14) = false := by rw [beq_eq_false_iff_ne]; omega
  have n15 : (k == 15) = false := by rw [beq_eq_false_iff_ne]; omega
  have n16 : (k == 16) = false := by rw [beq_eq_false_iff_ne]; omega
  clear hN hBB hB hx hSl hS hSS hSp hwl hlen hsz h
  cases x with
  | error y =>
    obtain ⟨p, m⟩ := y
    have hm0 := herr p m rfl
    have hmb : (m == 0) = false := by simpa using hm0
    have hBf : B = false := HBB.out.symm
    subst hBf
    clear herr hm0
    go_enter Tryz.func10, Tryz.ntmps10
    go_wp2_with fail
    refine (HN.out _).mono ?_; rintro e w4 ⟨hb4, rfl⟩
    have hT : Tk R9 w.heap.size k wd n 0 w4 := (hb4.block _ (by simp)).trans (Tk.made w)
    have hz4 : w.heap.size < w4.heap.size := Nat.lt_of_lt_of_le (by simp) hb4.size
    have hb4 : Below w.heap.size w w4 := ((Below.refl _ _).alloc (Nat.le_refl _) _).trans (hb4.mono (by simp))
    have g0 := hT.c0
    have g1 := hT.c1
    have g2 := hT.c2
    have g3 := hT.c3
    have gf := hT.fz
    rw [show tokV 0 ⟨0, [], 0, 0⟩ = .agg #[.int .i64 0, .string ⟨#[]⟩, .int .i64 0, .int .i64 0] from rfl]
    go_wp2_with fail
    go_ret2
    exact ⟨hb4.alloc (Nat.le_of_lt hz4) _, by rw [HSS.out]; rfl⟩
  | ok y =>
    obtain ⟨t, m⟩ := y
    clear herr
    obtain ⟨kd, wd', nn, aa, hV, hq⟩ : ∃ (kd : Int) (wd' : ByteArray) (nn aa : Int), tokV 0 t = .agg #[.int .i64 kd, .string wd', .int .i64 nn, .int .i64 aa] ∧ (kd = (t.kind : Int) ∧ wd' = ⟨t.word.toArray⟩ ∧ nn = t.num ∧ aa = ((0 + t.at_ : Nat) : Int)) := ⟨_, _, _, _, rfl, rfl, rfl, rfl, rfl⟩
    have HQ := Lib.hid hq
    have HVV := Lib.hid hV
    clear hq hV
    by_cases hP : kd = k ∧ wd' = wd ∧ nn = n ∧ aa = 0 ∧ (m : Int) = (V.size : Int)
    · have hBt : B = true := by
        rw [← HBB.out]
        obtain ⟨q1, q2, q3, q4⟩ := HQ.out
        obtain ⟨p1, p2, p3, p4, p5⟩ := hP
        have e1 : (t.kind : Int) = k := by rw [← q1]; exact p1
        have e2 : t.word = wd.data.toList := by rw [← p2, q2]
        have e3 : t.num = n := by rw [← q3]; exact p3
        have e4 : t.at_ = 0 := by omega
        have e5 : m = S.length := by have := HSZ.out; omega
        simp [e1, e2, e3, e4, e5]
      subst hBt
      obtain ⟨p1, p2, p3, rfl, p5⟩ := hP
      have p1 : (kd == k) = true := by rw [p1]; simp
      have p2 : (wd'.toList == wd.toList) = true := by rw [p2]; simp
      have p3 : (nn == n) = true := by rw [p3]; simp
      have p5b : ((m : Int) == (V.size : Int)) = true := by rw [p5]; simp
      clear p5
      go_enter Tryz.func10, Tryz.ntmps10
      go_wp2_with fail
      refine (HN.out _).mono ?_; rintro e w4 ⟨hb4, rfl⟩
      have hT : Tk R9 w.heap.size k wd n 0 w4 := (hb4.block _ (by simp)).trans (Tk.made w)
      have hz4 : w.heap.size < w4.heap.size := Nat.lt_of_lt_of_le (by simp) hb4.size
      have hb4 : Below w.heap.size w w4 := ((Below.refl _ _).alloc (Nat.le_refl _) _).trans (hb4.mono (by simp))
      have g0 := hT.c0
      have g1 := hT.c1
      have g2 := hT.c2
      have g3 := hT.c3
      have gf := hT.fz
      rw [HVV.out]
      go_wp2_with fail
      go_ret2
      exact ⟨hb4.alloc (Nat.le_of_lt hz4) _, by rw [HSS.out]; rfl⟩
    · have hBf : B = false := by
        cases B
        · rfl
        · exfalso
          have hb := HBB.out
          simp only [Bool.and_eq_true, decide_eq_true_eq] at hb
          obtain ⟨⟨⟨⟨b1, b2⟩, b3⟩, b4⟩, b5⟩ := hb
          obtain ⟨q1, q2, q3, q4⟩ := HQ.out
          refine hP ⟨q1.trans b1, ?_, q3.trans b3, by omega, by have := HSZ.out; omega⟩
          rw [q2, b2]
      subst hBf
      have HNP := Lib.hid hP
      clear hP
      go_enter Tryz.func10, Tryz.ntmps10
      go_wp2_with fail
      refine (HN.out _).mono ?_; rintro e w4 ⟨hb4, rfl⟩
      have hT : Tk R9 w.heap.size k wd n 0 w4 := (hb4.block _ (by simp)).trans (Tk.made w)
      have hz4 : w.heap.size < w4.heap.size := Nat.lt_of_lt_of_le (by simp) hb4.size
      have hb4 : Below w.heap.size w w4 := ((Below.refl _ _).alloc (Nat.le_refl _) _).trans (hb4.mono (by simp))
      have g0 := hT.c0
      have g1 := hT.c1
      have g2 := hT.c2
      have g3 := hT.c3
      have gf := hT.fz
      rw [HVV.out]
      go_wp2_with fail
      all_goals first
        | (go_ret2; exact ⟨hb4.alloc (Nat.le_of_lt hz4) _, by rw [HSS.out]; rfl⟩)
        | (have hF : ((m : Int) == (V.size : Int)) = false := by
            rw [beq_eq_false_iff_ne]; intro hme
            exact HNP.out ⟨by assumption, bytes_inj (by assumption), by assumption, by assumption, hme⟩
           go_ret2
           exact ⟨hb4.alloc (Nat.le_of_lt hz4) _, by rw [HSS.out]; exact ret2 rfl (congrArg Value.bool hF)⟩)
set_option maxRecDepth 100000 in
set_option maxHeartbeats 3200000 in
theorem rspell_mark10 (hk : -9223372036854775808 ≤ k ∧ k ≤ 9223372036854775807) (h0 : -9223372036854775808 ≤ n) (h1 : n ≤ 9223372036854775807) (hs : wd.size ≤ 35184372088832) (h : k = 10) :
    Calls Tryz.prog 10 #[.agg #[.int .i64 k, .string wd, .int .i64 n, .int .i64 a]] w (RSpelt (spelledL k wd.data.toList n) (spellB (spelledL k wd.data.toList n) k wd.data.toList n) w) := by
  have hlen := sp_len k n wd.data.toList h0 h1
  have hwl : wd.data.toList.length = wd.size := rfl
  have hSp : spelledL k wd.data.toList n = [59] := by rw [h]; rfl
  obtain ⟨S, hS⟩ : ∃ S, spelledL k wd.data.toList n = S := ⟨_, rfl⟩
  rw [hS] at hlen hSp ⊢
  obtain ⟨B, hB⟩ : ∃ B, spellB S k wd.data.toList n = B := ⟨_, rfl⟩
  rw [hB]
  have hBB := hB
  unfold spellB at hBB
  obtain ⟨V, hSS⟩ : ∃ V : ByteArray, (⟨S.toArray⟩ : ByteArray) = V := ⟨_, rfl⟩
  have hsz : V.size = S.length := by rw [← hSS]; simp [ByteArray.size]
  have hSl : V.data.toList = S := by rw [← hSS]
  have hN := fun v : World => rnext_any (s := V) (w := v) (by omega)
  rw [hSl] at hN
  obtain ⟨x, hx⟩ : ∃ x, nextR S = x := ⟨_, rfl⟩
  have herr := fun p n => nextR_err S p n
  rw [hx] at hN hBB herr
  have hVd : (⟨#[94, 46, 59, 40, 41, 91, 93]⟩ : ByteArray).extract 2 3 = V := by rw [← hSS, hSp]; rfl
  have hw8 : IntKind.i64.wrap (k - 8) = 2 := by rw [h]; rfl
  have hw7 : IntKind.i64.wrap (k - 7) = 3 := by rw [h]; rfl
  have HN := Lib.hid hN
  have HBB := Lib.hid hBB
  have HSS := Lib.hid hSS
  have HSZ := Lib.hid hsz
  have n1 : (k == 1) = false := by rw [beq_eq_false_iff_ne]; omega
  have n2 : (k == 2) = false := by rw [beq_eq_false_iff_ne]; omega
  have n3 : (k == 3) = false := by rw [beq_eq_false_iff_ne]; omega
  have n4 : (k == 4) = false := by rw [beq_eq_false_iff_ne]; omega
  have n5 : (k == 5) = false := by rw [beq_eq_false_iff_ne]; omega
  have n6 : (k == 6) = false := by rw [beq_eq_false_iff_ne]; omega
  have n7 : (k == 7) = false := by rw [beq_eq_false_iff_ne]; omega
  have n8 : (k == 8) = false := by rw [beq_eq_false_iff_ne]; omega
  have n9 : (k == 9) = false := by rw [beq_eq_false_iff_ne]; omega
  have n10 : (k == 10) = true := by rw [h]; rfl
  have n11 : (k == 11) = false := by rw [beq_eq_false_iff_ne]; omega
  have n12 : (k == 12) = false := by rw [beq_eq_false_iff_ne]; omega
  have n13 : (k == 13) = false := by rw [beq_eq_false_iff_ne]; omega
  have n14 : (k == 14) = false := by rw [beq_eq_false_iff_ne]; omega
  have n15 : (k == 15) = false := by rw [beq_eq_false_iff_ne]; omega
  have n16 : (k == 16) = false := by rw [beq_eq_false_iff_ne]; omega
  clear hN hBB hB hx hSl hS hSS hSp hwl hlen hsz h
  cases x with
  | error y =>
    obtain ⟨p, m⟩ := y
    have hm0 := herr p m rfl
    have hmb : (m == 0) = false := by simpa using hm0
    have hBf : B = false := HBB.out.symm
    subst hBf
    clear herr hm0
    go_enter Tryz.func10, Tryz.ntmps10
    go_wp2_with fail
    refine (HN.out _).mono ?_; rintro e w4 ⟨hb4, rfl⟩
    have hT : Tk R9 w.heap.size k wd n 0 w4 := (hb4.block _ (by simp)).trans (Tk.made w)
    have hz4 : w.heap.size < w4.heap.size := Nat.lt_of_lt_of_le (by simp) hb4.size
    have hb4 : Below w.heap.size w w4 := ((Below.refl _ _).alloc (Nat.le_refl _) _).trans (hb4.mono (by simp))
    have g0 := hT.c0
    have g1 := hT.c1
    have g2 := hT.c2
    have g3 := hT.c3
    have gf := hT.fz
    rw [show tokV 0 ⟨0, [], 0, 0⟩ = .agg #[.int .i64 0, .string ⟨#[]⟩, .int .i64 0, .int .i64 0] from rfl]
    go_wp2_with fail
    go_ret2
    exact ⟨hb4.alloc (Nat.le_of_lt hz4) _, by rw [HSS.out]; rfl⟩
  | ok y =>
    obtain ⟨t, m⟩ := y
    clear herr
    obtain ⟨kd, wd', nn, aa, hV, hq⟩ : ∃ (kd : Int) (wd' : ByteArray) (nn aa : Int), tokV 0 t = .agg #[.int .i64 kd, .string wd', .int .i64 nn, .int .i64 aa] ∧ (kd = (t.kind : Int) ∧ wd' = ⟨t.word.toArray⟩ ∧ nn = t.num ∧ aa = ((0 + t.at_ : Nat) : Int)) := ⟨_, _, _, _, rfl, rfl, rfl, rfl, rfl⟩
    have HQ := Lib.hid hq
    have HVV := Lib.hid hV
    clear hq hV
    by_cases hP : kd = k ∧ wd' = wd ∧ nn = n ∧ aa = 0 ∧ (m : Int) = (V.size : Int)
    · have hBt : B = true := by
        rw [← HBB.out]
        obtain ⟨q1, q2, q3, q4⟩ := HQ.out
        obtain ⟨p1, p2, p3, p4, p5⟩ := hP
        have e1 : (t.kind : Int) = k := by rw [← q1]; exact p1
        have e2 : t.word = wd.data.toList := by rw [← p2, q2]
        have e3 : t.num = n := by rw [← q3]; exact p3
        have e4 : t.at_ = 0 := by omega
        have e5 : m = S.length := by have := HSZ.out; omega
        simp [e1, e2, e3, e4, e5]
      subst hBt
      obtain ⟨p1, p2, p3, rfl, p5⟩ := hP
      have p1 : (kd == k) = true := by rw [p1]; simp
      have p2 : (wd'.toList == wd.toList) = true := by rw [p2]; simp
      have p3 : (nn == n) = true := by rw [p3]; simp
      have p5b : ((m : Int) == (V.size : Int)) = true := by rw [p5]; simp
      clear p5
      go_enter Tryz.func10, Tryz.ntmps10
      go_wp2_with fail
      refine (HN.out _).mono ?_; rintro e w4 ⟨hb4, rfl⟩
      have hT : Tk R9 w.heap.size k wd n 0 w4 := (hb4.block _ (by simp)).trans (Tk.made w)
      have hz4 : w.heap.size < w4.heap.size := Nat.lt_of_lt_of_le (by simp) hb4.size
      have hb4 : Below w.heap.size w w4 := ((Below.refl _ _).alloc (Nat.le_refl _) _).trans (hb4.mono (by simp))
      have g0 := hT.c0
      have g1 := hT.c1
      have g2 := hT.c2
      have g3 := hT.c3
      have gf := hT.fz
      rw [HVV.out]
      go_wp2_with fail
      go_ret2
      exact ⟨hb4.alloc (Nat.le_of_lt hz4) _, by rw [HSS.out]; rfl⟩
    · have hBf : B = false := by
        cases B
        · rfl
        · exfalso
          have hb := HBB.out
          simp only [Bool.and_eq_true, decide_eq_true_eq] at hb
          obtain ⟨⟨⟨⟨b1, b2⟩, b3⟩, b4⟩, b5⟩ := hb
          obtain ⟨q1, q2, q3, q4⟩ := HQ.out
          refine hP ⟨q1.trans b1, ?_, q3.trans b3, by omega, by have := HSZ.out; omega⟩
          rw [q2, b2]
      subst hBf
      have HNP := Lib.hid hP
      clear hP
      go_enter Tryz.func10, Tryz.ntmps10
      go_wp2_with fail
      refine (HN.out _).mono ?_; rintro e w4 ⟨hb4, rfl⟩
      have hT : Tk R9 w.heap.size k wd n 0 w4 := (hb4.block _ (by simp)).trans (Tk.made w)
      have hz4 : w.heap.size < w4.heap.size := Nat.lt_of_lt_of_le (by simp) hb4.size
      have hb4 : Below w.heap.size w w4 := ((Below.refl _ _).alloc (Nat.le_refl _) _).trans (hb4.mono (by simp))
      have g0 := hT.c0
      have g1 := hT.c1
      have g2 := hT.c2
      have g3 := hT.c3
      have gf := hT.fz
      rw [HVV.out]
      go_wp2_with fail
      all_goals first
        | (go_ret2; exact ⟨hb4.alloc (Nat.le_of_lt hz4) _, by rw [HSS.out]; rfl⟩)
        | (have hF : ((m : Int) == (V.size : Int)) = false := by
            rw [beq_eq_false_iff_ne]; intro hme
            exact HNP.out ⟨by assumption, bytes_inj (by assumption), by assumption, by assumption, hme⟩
           go_ret2
           exact ⟨hb4.alloc (Nat.le_of_lt hz4) _, by rw [HSS.out]; exact ret2 rfl (congrArg Value.bool hF)⟩)
set_option maxRecDepth 100000 in
set_option maxHeartbeats 3200000 in
theorem rspell_mark11 (hk : -9223372036854775808 ≤ k ∧ k ≤ 9223372036854775807) (h0 : -9223372036854775808 ≤ n) (h1 : n ≤ 9223372036854775807) (hs : wd.size ≤ 35184372088832) (h : k = 11) :
    Calls Tryz.prog 10 #[.agg #[.int .i64 k, .string wd, .int .i64 n, .int .i64 a]] w (RSpelt (spelledL k wd.data.toList n) (spellB (spelledL k wd.data.toList n) k wd.data.toList n) w) := by
  have hlen := sp_len k n wd.data.toList h0 h1
  have hwl : wd.data.toList.length = wd.size := rfl
  have hSp : spelledL k wd.data.toList n = [40] := by rw [h]; rfl
  obtain ⟨S, hS⟩ : ∃ S, spelledL k wd.data.toList n = S := ⟨_, rfl⟩
  rw [hS] at hlen hSp ⊢
  obtain ⟨B, hB⟩ : ∃ B, spellB S k wd.data.toList n = B := ⟨_, rfl⟩
  rw [hB]
  have hBB := hB
  unfold spellB at hBB
  obtain ⟨V, hSS⟩ : ∃ V : ByteArray, (⟨S.toArray⟩ : ByteArray) = V := ⟨_, rfl⟩
  have hsz : V.size = S.length := by rw [← hSS]; simp [ByteArray.size]
  have hSl : V.data.toList = S := by rw [← hSS]
  have hN := fun v : World => rnext_any (s := V) (w := v) (by omega)
  rw [hSl] at hN
  obtain ⟨x, hx⟩ : ∃ x, nextR S = x := ⟨_, rfl⟩
  have herr := fun p n => nextR_err S p n
  rw [hx] at hN hBB herr
  have hVd : (⟨#[94, 46, 59, 40, 41, 91, 93]⟩ : ByteArray).extract 3 4 = V := by rw [← hSS, hSp]; rfl
  have hw8 : IntKind.i64.wrap (k - 8) = 3 := by rw [h]; rfl
  have hw7 : IntKind.i64.wrap (k - 7) = 4 := by rw [h]; rfl
  have HN := Lib.hid hN
  have HBB := Lib.hid hBB
  have HSS := Lib.hid hSS
  have HSZ := Lib.hid hsz
  have n1 : (k == 1) = false := by rw [beq_eq_false_iff_ne]; omega
  have n2 : (k == 2) = false := by rw [beq_eq_false_iff_ne]; omega
  have n3 : (k == 3) = false := by rw [beq_eq_false_iff_ne]; omega
  have n4 : (k == 4) = false := by rw [beq_eq_false_iff_ne]; omega
  have n5 : (k == 5) = false := by rw [beq_eq_false_iff_ne]; omega
  have n6 : (k == 6) = false := by rw [beq_eq_false_iff_ne]; omega
  have n7 : (k == 7) = false := by rw [beq_eq_false_iff_ne]; omega
  have n8 : (k == 8) = false := by rw [beq_eq_false_iff_ne]; omega
  have n9 : (k == 9) = false := by rw [beq_eq_false_iff_ne]; omega
  have n10 : (k == 10) = false := by rw [beq_eq_false_iff_ne]; omega
  have n11 : (k == 11) = true := by rw [h]; rfl
  have n12 : (k == 12) = false := by rw [beq_eq_false_iff_ne]; omega
  have n13 : (k == 13) = false := by rw [beq_eq_false_iff_ne]; omega
  have n14 : (k == 14) = false := by rw [beq_eq_false_iff_ne]; omega
  have n15 : (k == 15) = false := by rw [beq_eq_false_iff_ne]; omega
  have n16 : (k == 16) = false := by rw [beq_eq_false_iff_ne]; omega
  clear hN hBB hB hx hSl hS hSS hSp hwl hlen hsz h
  cases x with
  | error y =>
    obtain ⟨p, m⟩ := y
    have hm0 := herr p m rfl
    have hmb : (m == 0) = false := by simpa using hm0
    have hBf : B = false := HBB.out.symm
    subst hBf
    clear herr hm0
    go_enter Tryz.func10, Tryz.ntmps10
    go_wp2_with fail
    refine (HN.out _).mono ?_; rintro e w4 ⟨hb4, rfl⟩
    have hT : Tk R9 w.heap.size k wd n 0 w4 := (hb4.block _ (by simp)).trans (Tk.made w)
    have hz4 : w.heap.size < w4.heap.size := Nat.lt_of_lt_of_le (by simp) hb4.size
    have hb4 : Below w.heap.size w w4 := ((Below.refl _ _).alloc (Nat.le_refl _) _).trans (hb4.mono (by simp))
    have g0 := hT.c0
    have g1 := hT.c1
    have g2 := hT.c2
    have g3 := hT.c3
    have gf := hT.fz
    rw [show tokV 0 ⟨0, [], 0, 0⟩ = .agg #[.int .i64 0, .string ⟨#[]⟩, .int .i64 0, .int .i64 0] from rfl]
    go_wp2_with fail
    go_ret2
    exact ⟨hb4.alloc (Nat.le_of_lt hz4) _, by rw [HSS.out]; rfl⟩
  | ok y =>
    obtain ⟨t, m⟩ := y
    clear herr
    obtain ⟨kd, wd', nn, aa, hV, hq⟩ : ∃ (kd : Int) (wd' : ByteArray) (nn aa : Int), tokV 0 t = .agg #[.int .i64 kd, .string wd', .int .i64 nn, .int .i64 aa] ∧ (kd = (t.kind : Int) ∧ wd' = ⟨t.word.toArray⟩ ∧ nn = t.num ∧ aa = ((0 + t.at_ : Nat) : Int)) := ⟨_, _, _, _, rfl, rfl, rfl, rfl, rfl⟩
    have HQ := Lib.hid hq
    have HVV := Lib.hid hV
    clear hq hV
    by_cases hP : kd = k ∧ wd' = wd ∧ nn = n ∧ aa = 0 ∧ (m : Int) = (V.size : Int)
    · have hBt : B = true := by
        rw [← HBB.out]
        obtain ⟨q1, q2, q3, q4⟩ := HQ.out
        obtain ⟨p1, p2, p3, p4, p5⟩ := hP
        have e1 : (t.kind : Int) = k := by rw [← q1]; exact p1
        have e2 : t.word = wd.data.toList := by rw [← p2, q2]
        have e3 : t.num = n := by rw [← q3]; exact p3
        have e4 : t.at_ = 0 := by omega
        have e5 : m = S.length := by have := HSZ.out; omega
        simp [e1, e2, e3, e4, e5]
      subst hBt
      obtain ⟨p1, p2, p3, rfl, p5⟩ := hP
      have p1 : (kd == k) = true := by rw [p1]; simp
      have p2 : (wd'.toList == wd.toList) = true := by rw [p2]; simp
      have p3 : (nn == n) = true := by rw [p3]; simp
      have p5b : ((m : Int) == (V.size : Int)) = true := by rw [p5]; simp
      clear p5
      go_enter Tryz.func10, Tryz.ntmps10
      go_wp2_with fail
      refine (HN.out _).mono ?_; rintro e w4 ⟨hb4, rfl⟩
      have hT : Tk R9 w.heap.size k wd n 0 w4 := (hb4.block _ (by simp)).trans (Tk.made w)
      have hz4 : w.heap.size < w4.heap.size := Nat.lt_of_lt_of_le (by simp) hb4.size
      have hb4 : Below w.heap.size w w4 := ((Below.refl _ _).alloc (Nat.le_refl _) _).trans (hb4.mono (by simp))
      have g0 := hT.c0
      have g1 := hT.c1
      have g2 := hT.c2
      have g3 := hT.c3
      have gf := hT.fz
      rw [HVV.out]
      go_wp2_with fail
      go_ret2
      exact ⟨hb4.alloc (Nat.le_of_lt hz4) _, by rw [HSS.out]; rfl⟩
    · have hBf : B = false := by
        cases B
        · rfl
        · exfalso
          have hb := HBB.out
          simp only [Bool.and_eq_true, decide_eq_true_eq] at hb
          obtain ⟨⟨⟨⟨b1, b2⟩, b3⟩, b4⟩, b5⟩ := hb
          obtain ⟨q1, q2, q3, q4⟩ := HQ.out
          refine hP ⟨q1.trans b1, ?_, q3.trans b3, by omega, by have := HSZ.out; omega⟩
          rw [q2, b2]
      subst hBf
      have HNP := Lib.hid hP
      clear hP
      go_enter Tryz.func10, Tryz.ntmps10
      go_wp2_with fail
      refine (HN.out _).mono ?_; rintro e w4 ⟨hb4, rfl⟩
      have hT : Tk R9 w.heap.size k wd n 0 w4 := (hb4.block _ (by simp)).trans (Tk.made w)
      have hz4 : w.heap.size < w4.heap.size := Nat.lt_of_lt_of_le (by simp) hb4.size
      have hb4 : Below w.heap.size w w4 := ((Below.refl _ _).alloc (Nat.le_refl _) _).trans (hb4.mono (by simp))
      have g0 := hT.c0
      have g1 := hT.c1
      have g2 := hT.c2
      have g3 := hT.c3
      have gf := hT.fz
      rw [HVV.out]
      go_wp2_with fail
      all_goals first
        | (go_ret2; exact ⟨hb4.alloc (Nat.le_of_lt hz4) _, by rw [HSS.out]; rfl⟩)
        | (have hF : ((m : Int) == (V.size : Int)) = false := by
            rw [beq_eq_false_iff_ne]; intro hme
            exact HNP.out ⟨by assumption, bytes_inj (by assumption), by assumption, by assumption, hme⟩
           go_ret2
           exact ⟨hb4.alloc (Nat.le_of_lt hz4) _, by rw [HSS.out]; exact ret2 rfl (congrArg Value.bool hF)⟩)
set_option maxRecDepth 100000 in
set_option maxHeartbeats 3200000 in
theorem rspell_mark12 (hk : -9223372036854775808 ≤ k ∧ k ≤ 9223372036854775807) (h0 : -9223372036854775808 ≤ n) (h1 : n ≤ 9223372036854775807) (hs : wd.size ≤ 35184372088832) (h : k = 12) :
    Calls Tryz.prog 10 #[.agg #[.int .i64 k, .string wd, .int .i64 n, .int .i64 a]] w (RSpelt (spelledL k wd.data.toList n) (spellB (spelledL k wd.data.toList n) k wd.data.toList n) w) := by
  have hlen := sp_len k n wd.data.toList h0 h1
  have hwl : wd.data.toList.length = wd.size := rfl
  have hSp : spelledL k wd.data.toList n = [41] := by rw [h]; rfl
  obtain ⟨S, hS⟩ : ∃ S, spelledL k wd.data.toList n = S := ⟨_, rfl⟩
  rw [hS] at hlen hSp ⊢
  obtain ⟨B, hB⟩ : ∃ B, spellB S k wd.data.toList n = B := ⟨_, rfl⟩
  rw [hB]
  have hBB := hB
  unfold spellB at hBB
  obtain ⟨V, hSS⟩ : ∃ V : ByteArray, (⟨S.toArray⟩ : ByteArray) = V := ⟨_, rfl⟩
  have hsz : V.size = S.length := by rw [← hSS]; simp [ByteArray.size]
  have hSl : V.data.toList = S := by rw [← hSS]
  have hN := fun v : World => rnext_any (s := V) (w := v) (by omega)
  rw [hSl] at hN
  obtain ⟨x, hx⟩ : ∃ x, nextR S = x := ⟨_, rfl⟩
  have herr := fun p n => nextR_err S p n
  rw [hx] at hN hBB herr
  have hVd : (⟨#[94, 46, 59, 40, 41, 91, 93]⟩ : ByteArray).extract 4 5 = V := by rw [← hSS, hSp]; rfl
  have hw8 : IntKind.i64.wrap (k - 8) = 4 := by rw [h]; rfl
  have hw7 : IntKind.i64.wrap (k - 7) = 5 := by rw [h]; rfl
  have HN := Lib.hid hN
  have HBB := Lib.hid hBB
  have HSS := Lib.hid hSS
  have HSZ := Lib.hid hsz
  have n1 : (k == 1) = false := by rw [beq_eq_false_iff_ne]; omega
  have n2 : (k == 2) = false := by rw [beq_eq_false_iff_ne]; omega
  have n3 : (k == 3) = false := by rw [beq_eq_false_iff_ne]; omega
  have n4 : (k == 4) = false := by rw [beq_eq_false_iff_ne]; omega
  have n5 : (k == 5) = false := by rw [beq_eq_false_iff_ne]; omega
  have n6 : (k == 6) = false := by rw [beq_eq_false_iff_ne]; omega
  have n7 : (k == 7) = false := by rw [beq_eq_false_iff_ne]; omega
  have n8 : (k == 8) = false := by rw [beq_eq_false_iff_ne]; omega
  have n9 : (k == 9) = false := by rw [beq_eq_false_iff_ne]; omega
  have n10 : (k == 10) = false := by rw [beq_eq_false_iff_ne]; omega
  have n11 : (k == 11) = false := by rw [beq_eq_false_iff_ne]; omega
  have n12 : (k == 12) = true := by rw [h]; rfl
  have n13 : (k == 13) = false := by rw [beq_eq_false_iff_ne]; omega
  have n14 : (k == 14) = false := by rw [beq_eq_false_iff_ne]; omega
  have n15 : (k == 15) = false := by rw [beq_eq_false_iff_ne]; omega
  have n16 : (k == 16) = false := by rw [beq_eq_false_iff_ne]; omega
  clear hN hBB hB hx hSl hS hSS hSp hwl hlen hsz h
  cases x with
  | error y =>
    obtain ⟨p, m⟩ := y
    have hm0 := herr p m rfl
    have hmb : (m == 0) = false := by simpa using hm0
    have hBf : B = false := HBB.out.symm
    subst hBf
    clear herr hm0
    go_enter Tryz.func10, Tryz.ntmps10
    go_wp2_with fail
    refine (HN.out _).mono ?_; rintro e w4 ⟨hb4, rfl⟩
    have hT : Tk R9 w.heap.size k wd n 0 w4 := (hb4.block _ (by simp)).trans (Tk.made w)
    have hz4 : w.heap.size < w4.heap.size := Nat.lt_of_lt_of_le (by simp) hb4.size
    have hb4 : Below w.heap.size w w4 := ((Below.refl _ _).alloc (Nat.le_refl _) _).trans (hb4.mono (by simp))
    have g0 := hT.c0
    have g1 := hT.c1
    have g2 := hT.c2
    have g3 := hT.c3
    have gf := hT.fz
    rw [show tokV 0 ⟨0, [], 0, 0⟩ = .agg #[.int .i64 0, .string ⟨#[]⟩, .int .i64 0, .int .i64 0] from rfl]
    go_wp2_with fail
    go_ret2
    exact ⟨hb4.alloc (Nat.le_of_lt hz4) _, by rw [HSS.out]; rfl⟩
  | ok y =>
    obtain ⟨t, m⟩ := y
    clear herr
    obtain ⟨kd, wd', nn, aa, hV, hq⟩ : ∃ (kd : Int) (wd' : ByteArray) (nn aa : Int), tokV 0 t = .agg #[.int .i64 kd, .string wd', .int .i64 nn, .int .i64 aa] ∧ (kd = (t.kind : Int) ∧ wd' = ⟨t.word.toArray⟩ ∧ nn = t.num ∧ aa = ((0 + t.at_ : Nat) : Int)) := ⟨_, _, _, _, rfl, rfl, rfl, rfl, rfl⟩
    have HQ := Lib.hid hq
    have HVV := Lib.hid hV
    clear hq hV
    by_cases hP : kd = k ∧ wd' = wd ∧ nn = n ∧ aa = 0 ∧ (m : Int) = (V.size : Int)
    · have hBt : B = true := by
        rw [← HBB.out]
        obtain ⟨q1, q2, q3, q4⟩ := HQ.out
        obtain ⟨p1, p2, p3, p4, p5⟩ := hP
        have e1 : (t.kind : Int) = k := by rw [← q1]; exact p1
        have e2 : t.word = wd.data.toList := by rw [← p2, q2]
        have e3 : t.num = n := by rw [← q3]; exact p3
        have e4 : t.at_ = 0 := by omega
        have e5 : m = S.length := by have := HSZ.out; omega
        simp [e1, e2, e3, e4, e5]
      subst hBt
      obtain ⟨p1, p2, p3, rfl, p5⟩ := hP
      have p1 : (kd == k) = true := by rw [p1]; simp
      have p2 : (wd'.toList == wd.toList) = true := by rw [p2]; simp
      have p3 : (nn == n) = true := by rw [p3]; simp
      have p5b : ((m : Int) == (V.size : Int)) = true := by rw [p5]; simp
      clear p5
      go_enter Tryz.func10, Tryz.ntmps10
      go_wp2_with fail
      refine (HN.out _).mono ?_; rintro e w4 ⟨hb4, rfl⟩
      have hT : Tk R9 w.heap.size k wd n 0 w4 := (hb4.block _ (by simp)).trans (Tk.made w)
      have hz4 : w.heap.size < w4.heap.size := Nat.lt_of_lt_of_le (by simp) hb4.size
      have hb4 : Below w.heap.size w w4 := ((Below.refl _ _).alloc (Nat.le_refl _) _).trans (hb4.mono (by simp))
      have g0 := hT.c0
      have g1 := hT.c1
      have g2 := hT.c2
      have g3 := hT.c3
      have gf := hT.fz
      rw [HVV.out]
      go_wp2_with fail
      go_ret2
      exact ⟨hb4.alloc (Nat.le_of_lt hz4) _, by rw [HSS.out]; rfl⟩
    · have hBf : B = false := by
        cases B
        · rfl
        · exfalso
          have hb := HBB.out
          simp only [Bool.and_eq_true, decide_eq_true_eq] at hb
          obtain ⟨⟨⟨⟨b1, b2⟩, b3⟩, b4⟩, b5⟩ := hb
          obtain ⟨q1, q2, q3, q4⟩ := HQ.out
          refine hP ⟨q1.trans b1, ?_, q3.trans b3, by omega, by have := HSZ.out; omega⟩
          rw [q2, b2]
      subst hBf
      have HNP := Lib.hid hP
      clear hP
      go_enter Tryz.func10, Tryz.ntmps10
      go_wp2_with fail
      refine (HN.out _).mono ?_; rintro e w4 ⟨hb4, rfl⟩
      have hT : Tk R9 w.heap.size k wd n 0 w4 := (hb4.block _ (by simp)).trans (Tk.made w)
      have hz4 : w.heap.size < w4.heap.size := Nat.lt_of_lt_of_le (by simp) hb4.size
      have hb4 : Below w.heap.size w w4 := ((Below.refl _ _).alloc (Nat.le_refl _) _).trans (hb4.mono (by simp))
      have g0 := hT.c0
      have g1 := hT.c1
      have g2 := hT.c2
      have g3 := hT.c3
      have gf := hT.fz
      rw [HVV.out]
      go_wp2_with fail
      all_goals first
        | (go_ret2; exact ⟨hb4.alloc (Nat.le_of_lt hz4) _, by rw [HSS.out]; rfl⟩)
        | (have hF : ((m : Int) == (V.size : Int)) = false := by
            rw [beq_eq_false_iff_ne]; intro hme
            exact HNP.out ⟨by assumption, bytes_inj (by assumption), by assumption, by assumption, hme⟩
           go_ret2
           exact ⟨hb4.alloc (Nat.le_of_lt hz4) _, by rw [HSS.out]; exact ret2 rfl (congrArg Value.bool hF)⟩)
set_option maxRecDepth 100000 in
set_option maxHeartbeats 3200000 in
theorem rspell_mark13 (hk : -9223372036854775808 ≤ k ∧ k ≤ 9223372036854775807) (h0 : -9223372036854775808 ≤ n) (h1 : n ≤ 9223372036854775807) (hs : wd.size ≤ 35184372088832) (h : k = 13) :
    Calls Tryz.prog 10 #[.agg #[.int .i64 k, .string wd, .int .i64 n, .int .i64 a]] w (RSpelt (spelledL k wd.data.toList n) (spellB (spelledL k wd.data.toList n) k wd.data.toList n) w) := by
  have hlen := sp_len k n wd.data.toList h0 h1
  have hwl : wd.data.toList.length = wd.size := rfl
  have hSp : spelledL k wd.data.toList n = [91] := by rw [h]; rfl
  obtain ⟨S, hS⟩ : ∃ S, spelledL k wd.data.toList n = S := ⟨_, rfl⟩
  rw [hS] at hlen hSp ⊢
  obtain ⟨B, hB⟩ : ∃ B, spellB S k wd.data.toList n = B := ⟨_, rfl⟩
  rw [hB]
  have hBB := hB
  unfold spellB at hBB
  obtain ⟨V, hSS⟩ : ∃ V : ByteArray, (⟨S.toArray⟩ : ByteArray) = V := ⟨_, rfl⟩
  have hsz : V.size = S.length := by rw [← hSS]; simp [ByteArray.size]
  have hSl : V.data.toList = S := by rw [← hSS]
  have hN := fun v : World => rnext_any (s := V) (w := v) (by omega)
  rw [hSl] at hN
  obtain ⟨x, hx⟩ : ∃ x, nextR S = x := ⟨_, rfl⟩
  have herr := fun p n => nextR_err S p n
  rw [hx] at hN hBB herr
  have hVd : (⟨#[94, 46, 59, 40, 41, 91, 93]⟩ : ByteArray).extract 5 6 = V := by rw [← hSS, hSp]; rfl
  have hw8 : IntKind.i64.wrap (k - 8) = 5 := by rw [h]; rfl
  have hw7 : IntKind.i64.wrap (k - 7) = 6 := by rw [h]; rfl
  have HN := Lib.hid hN
  have HBB := Lib.hid hBB
  have HSS := Lib.hid hSS
  have HSZ := Lib.hid hsz
  have n1 : (k == 1) = false := by rw [beq_eq_false_iff_ne]; omega
  have n2 : (k == 2) = false := by rw [beq_eq_false_iff_ne]; omega
  have n3 : (k == 3) = false := by rw [beq_eq_false_iff_ne]; omega
  have n4 : (k == 4) = false := by rw [beq_eq_false_iff_ne]; omega
  have n5 : (k == 5) = false := by rw [beq_eq_false_iff_ne]; omega
  have n6 : (k == 6) = false := by rw [beq_eq_false_iff_ne]; omega
  have n7 : (k == 7) = false := by rw [beq_eq_false_iff_ne]; omega
  have n8 : (k == 8) = false := by rw [beq_eq_false_iff_ne]; omega
  have n9 : (k == 9) = false := by rw [beq_eq_false_iff_ne]; omega
  have n10 : (k == 10) = false := by rw [beq_eq_false_iff_ne]; omega
  have n11 : (k == 11) = false := by rw [beq_eq_false_iff_ne]; omega
  have n12 : (k == 12) = false := by rw [beq_eq_false_iff_ne]; omega
  have n13 : (k == 13) = true := by rw [h]; rfl
  have n14 : (k == 14) = false := by rw [beq_eq_false_iff_ne]; omega
  have n15 : (k == 15) = false := by rw [beq_eq_false_iff_ne]; omega
  have n16 : (k == 16) = false := by rw [beq_eq_false_iff_ne]; omega
  clear hN hBB hB hx hSl hS hSS hSp hwl hlen hsz h
  cases x with
  | error y =>
    obtain ⟨p, m⟩ := y
    have hm0 := herr p m rfl
    have hmb : (m == 0) = false := by simpa using hm0
    have hBf : B = false := HBB.out.symm
    subst hBf
    clear herr hm0
    go_enter Tryz.func10, Tryz.ntmps10
    go_wp2_with fail
    refine (HN.out _).mono ?_; rintro e w4 ⟨hb4, rfl⟩
    have hT : Tk R9 w.heap.size k wd n 0 w4 := (hb4.block _ (by simp)).trans (Tk.made w)
    have hz4 : w.heap.size < w4.heap.size := Nat.lt_of_lt_of_le (by simp) hb4.size
    have hb4 : Below w.heap.size w w4 := ((Below.refl _ _).alloc (Nat.le_refl _) _).trans (hb4.mono (by simp))
    have g0 := hT.c0
    have g1 := hT.c1
    have g2 := hT.c2
    have g3 := hT.c3
    have gf := hT.fz
    rw [show tokV 0 ⟨0, [], 0, 0⟩ = .agg #[.int .i64 0, .string ⟨#[]⟩, .int .i64 0, .int .i64 0] from rfl]
    go_wp2_with fail
    go_ret2
    exact ⟨hb4.alloc (Nat.le_of_lt hz4) _, by rw [HSS.out]; rfl⟩
  | ok y =>
    obtain ⟨t, m⟩ := y
    clear herr
    obtain ⟨kd, wd', nn, aa, hV, hq⟩ : ∃ (kd : Int) (wd' : ByteArray) (nn aa : Int), tokV 0 t = .agg #[.int .i64 kd, .string wd', .int .i64 nn, .int .i64 aa] ∧ (kd = (t.kind : Int) ∧ wd' = ⟨t.word.toArray⟩ ∧ nn = t.num ∧ aa = ((0 + t.at_ : Nat) : Int)) := ⟨_, _, _, _, rfl, rfl, rfl, rfl, rfl⟩
    have HQ := Lib.hid hq
    have HVV := Lib.hid hV
    clear hq hV
    by_cases hP : kd = k ∧ wd' = wd ∧ nn = n ∧ aa = 0 ∧ (m : Int) = (V.size : Int)
    · have hBt : B = true := by
        rw [← HBB.out]
        obtain ⟨q1, q2, q3, q4⟩ := HQ.out
        obtain ⟨p1, p2, p3, p4, p5⟩ := hP
        have e1 : (t.kind : Int) = k := by rw [← q1]; exact p1
        have e2 : t.word = wd.data.toList := by rw [← p2, q2]
        have e3 : t.num = n := by rw [← q3]; exact p3
        have e4 : t.at_ = 0 := by omega
        have e5 : m = S.length := by have := HSZ.out; omega
        simp [e1, e2, e3, e4, e5]
      subst hBt
      obtain ⟨p1, p2, p3, rfl, p5⟩ := hP
      have p1 : (kd == k) = true := by rw [p1]; simp
      have p2 : (wd'.toList == wd.toList) = true := by rw [p2]; simp
      have p3 : (nn == n) = true := by rw [p3]; simp
      have p5b : ((m : Int) == (V.size : Int)) = true := by rw [p5]; simp
      clear p5
      go_enter Tryz.func10, Tryz.ntmps10
      go_wp2_with fail
      refine (HN.out _).mono ?_; rintro e w4 ⟨hb4, rfl⟩
      have hT : Tk R9 w.heap.size k wd n 0 w4 := (hb4.block _ (by simp)).trans (Tk.made w)
      have hz4 : w.heap.size < w4.heap.size := Nat.lt_of_lt_of_le (by simp) hb4.size
      have hb4 : Below w.heap.size w w4 := ((Below.refl _ _).alloc (Nat.le_refl _) _).trans (hb4.mono (by simp))
      have g0 := hT.c0
      have g1 := hT.c1
      have g2 := hT.c2
      have g3 := hT.c3
      have gf := hT.fz
      rw [HVV.out]
      go_wp2_with fail
      go_ret2
      exact ⟨hb4.alloc (Nat.le_of_lt hz4) _, by rw [HSS.out]; rfl⟩
    · have hBf : B = false := by
        cases B
        · rfl
        · exfalso
          have hb := HBB.out
          simp only [Bool.and_eq_true, decide_eq_true_eq] at hb
          obtain ⟨⟨⟨⟨b1, b2⟩, b3⟩, b4⟩, b5⟩ := hb
          obtain ⟨q1, q2, q3, q4⟩ := HQ.out
          refine hP ⟨q1.trans b1, ?_, q3.trans b3, by omega, by have := HSZ.out; omega⟩
          rw [q2, b2]
      subst hBf
      have HNP := Lib.hid hP
      clear hP
      go_enter Tryz.func10, Tryz.ntmps10
      go_wp2_with fail
      refine (HN.out _).mono ?_; rintro e w4 ⟨hb4, rfl⟩
      have hT : Tk R9 w.heap.size k wd n 0 w4 := (hb4.block _ (by simp)).trans (Tk.made w)
      have hz4 : w.heap.size < w4.heap.size := Nat.lt_of_lt_of_le (by simp) hb4.size
      have hb4 : Below w.heap.size w w4 := ((Below.refl _ _).alloc (Nat.le_refl _) _).trans (hb4.mono (by simp))
      have g0 := hT.c0
      have g1 := hT.c1
      have g2 := hT.c2
      have g3 := hT.c3
      have gf := hT.fz
      rw [HVV.out]
      go_wp2_with fail
      all_goals first
        | (go_ret2; exact ⟨hb4.alloc (Nat.le_of_lt hz4) _, by rw [HSS.out]; rfl⟩)
        | (have hF : ((m : Int) == (V.size : Int)) = false := by
            rw [beq_eq_false_iff_ne]; intro hme
            exact HNP.out ⟨by assumption, bytes_inj (by assumption), by assumption, by assumption, hme⟩
           go_ret2
           exact ⟨hb4.alloc (Nat.le_of_lt hz4) _, by rw [HSS.out]; exact ret2 rfl (congrArg Value.bool hF)⟩)
set_option maxRecDepth 100000 in
set_option maxHeartbeats 3200000 in
theorem rspell_mark14 (hk : -9223372036854775808 ≤ k ∧ k ≤ 9223372036854775807) (h0 : -9223372036854775808 ≤ n) (h1 : n ≤ 9223372036854775807) (hs : wd.size ≤ 35184372088832) (h : k = 14) :
    Calls Tryz.prog 10 #[.agg #[.int .i64 k, .string wd, .int .i64 n, .int .i64 a]] w (RSpelt (spelledL k wd.data.toList n) (spellB (spelledL k wd.data.toList n) k wd.data.toList n) w) := by
  have hlen := sp_len k n wd.data.toList h0 h1
  have hwl : wd.data.toList.length = wd.size := rfl
  have hSp : spelledL k wd.data.toList n = [93] := by rw [h]; rfl
  obtain ⟨S, hS⟩ : ∃ S, spelledL k wd.data.toList n = S := ⟨_, rfl⟩
  rw [hS] at hlen hSp ⊢
  obtain ⟨B, hB⟩ : ∃ B, spellB S k wd.data.toList n = B := ⟨_, rfl⟩
  rw [hB]
  have hBB := hB
  unfold spellB at hBB
  obtain ⟨V, hSS⟩ : ∃ V : ByteArray, (⟨S.toArray⟩ : ByteArray) = V := ⟨_, rfl⟩
  have hsz : V.size = S.length := by rw [← hSS]; simp [ByteArray.size]
  have hSl : V.data.toList = S := by rw [← hSS]
  have hN := fun v : World => rnext_any (s := V) (w := v) (by omega)
  rw [hSl] at hN
  obtain ⟨x, hx⟩ : ∃ x, nextR S = x := ⟨_, rfl⟩
  have herr := fun p n => nextR_err S p n
  rw [hx] at hN hBB herr
  have hVd : (⟨#[94, 46, 59, 40, 41, 91, 93]⟩ : ByteArray).extract 6 7 = V := by rw [← hSS, hSp]; rfl
  have hw8 : IntKind.i64.wrap (k - 8) = 6 := by rw [h]; rfl
  have hw7 : IntKind.i64.wrap (k - 7) = 7 := by rw [h]; rfl
  have HN := Lib.hid hN
  have HBB := Lib.hid hBB
  have HSS := Lib.hid hSS
  have HSZ := Lib.hid hsz
  have n1 : (k == 1) = false := by rw [beq_eq_false_iff_ne]; omega
  have n2 : (k == 2) = false := by rw [beq_eq_false_iff_ne]; omega
  have n3 : (k == 3) = false := by rw [beq_eq_false_iff_ne]; omega
  have n4 : (k == 4) = false := by rw [beq_eq_false_iff_ne]; omega
  have n5 : (k == 5) = false := by rw [beq_eq_false_iff_ne]; omega
  have n6 : (k == 6) = false := by rw [beq_eq_false_iff_ne]; omega
  have n7 : (k == 7) = false := by rw [beq_eq_false_iff_ne]; omega
  have n8 : (k == 8) = false := by rw [beq_eq_false_iff_ne]; omega
  have n9 : (k == 9) = false := by rw [beq_eq_false_iff_ne]; omega
  have n10 : (k == 10) = false := by rw [beq_eq_false_iff_ne]; omega
  have n11 : (k == 11) = false := by rw [beq_eq_false_iff_ne]; omega
  have n12 : (k == 12) = false := by rw [beq_eq_false_iff_ne]; omega
  have n13 : (k == 13) = false := by rw [beq_eq_false_iff_ne]; omega
  have n14 : (k == 14) = true := by rw [h]; rfl
  have n15 : (k == 15) = false := by rw [beq_eq_false_iff_ne]; omega
  have n16 : (k == 16) = false := by rw [beq_eq_false_iff_ne]; omega
  clear hN hBB hB hx hSl hS hSS hSp hwl hlen hsz h
  cases x with
  | error y =>
    obtain ⟨p, m⟩ := y
    have hm0 := herr p m rfl
    have hmb : (m == 0) = false := by simpa using hm0
    have hBf : B = false := HBB.out.symm
    subst hBf
    clear herr hm0
    go_enter Tryz.func10, Tryz.ntmps10
    go_wp2_with fail
    refine (HN.out _).mono ?_; rintro e w4 ⟨hb4, rfl⟩
    have hT : Tk R9 w.heap.size k wd n 0 w4 := (hb4.block _ (by simp)).trans (Tk.made w)
    have hz4 : w.heap.size < w4.heap.size := Nat.lt_of_lt_of_le (by simp) hb4.size
    have hb4 : Below w.heap.size w w4 := ((Below.refl _ _).alloc (Nat.le_refl _) _).trans (hb4.mono (by simp))
    have g0 := hT.c0
    have g1 := hT.c1
    have g2 := hT.c2
    have g3 := hT.c3
    have gf := hT.fz
    rw [show tokV 0 ⟨0, [], 0, 0⟩ = .agg #[.int .i64 0, .string ⟨#[]⟩, .int .i64 0, .int .i64 0] from rfl]
    go_wp2_with fail
    go_ret2
    exact ⟨hb4.alloc (Nat.le_of_lt hz4) _, by rw [HSS.out]; rfl⟩
  | ok y =>
    obtain ⟨t, m⟩ := y
    clear herr
    obtain ⟨kd, wd', nn, aa, hV, hq⟩ : ∃ (kd : Int) (wd' : ByteArray) (nn aa : Int), tokV 0 t = .agg #[.int .i64 kd, .string wd', .int .i64 nn, .int .i64 aa] ∧ (kd = (t.kind : Int) ∧ wd' = ⟨t.word.toArray⟩ ∧ nn = t.num ∧ aa = ((0 + t.at_ : Nat) : Int)) := ⟨_, _, _, _, rfl, rfl, rfl, rfl, rfl⟩
    have HQ := Lib.hid hq
    have HVV := Lib.hid hV
    clear hq hV
    by_cases hP : kd = k ∧ wd' = wd ∧ nn = n ∧ aa = 0 ∧ (m : Int) = (V.size : Int)
    · have hBt : B = true := by
        rw [← HBB.out]
        obtain ⟨q1, q2, q3, q4⟩ := HQ.out
        obtain ⟨p1, p2, p3, p4, p5⟩ := hP
        have e1 : (t.kind : Int) = k := by rw [← q1]; exact p1
        have e2 : t.word = wd.data.toList := by rw [← p2, q2]
        have e3 : t.num = n := by rw [← q3]; exact p3
        have e4 : t.at_ = 0 := by omega
        have e5 : m = S.length := by have := HSZ.out; omega
        simp [e1, e2, e3, e4, e5]
      subst hBt
      obtain ⟨p1, p2, p3, rfl, p5⟩ := hP
      have p1 : (kd == k) = true := by rw [p1]; simp
      have p2 : (wd'.toList == wd.toList) = true := by rw [p2]; simp
      have p3 : (nn == n) = true := by rw [p3]; simp
      have p5b : ((m : Int) == (V.size : Int)) = true := by rw [p5]; simp
      clear p5
      go_enter Tryz.func10, Tryz.ntmps10
      go_wp2_with fail
      refine (HN.out _).mono ?_; rintro e w4 ⟨hb4, rfl⟩
      have hT : Tk R9 w.heap.size k wd n 0 w4 := (hb4.block _ (by simp)).trans (Tk.made w)
      have hz4 : w.heap.size < w4.heap.size := Nat.lt_of_lt_of_le (by simp) hb4.size
      have hb4 : Below w.heap.size w w4 := ((Below.refl _ _).alloc (Nat.le_refl _) _).trans (hb4.mono (by simp))
      have g0 := hT.c0
      have g1 := hT.c1
      have g2 := hT.c2
      have g3 := hT.c3
      have gf := hT.fz
      rw [HVV.out]
      go_wp2_with fail
      go_ret2
      exact ⟨hb4.alloc (Nat.le_of_lt hz4) _, by rw [HSS.out]; rfl⟩
    · have hBf : B = false := by
        cases B
        · rfl
        · exfalso
          have hb := HBB.out
          simp only [Bool.and_eq_true, decide_eq_true_eq] at hb
          obtain ⟨⟨⟨⟨b1, b2⟩, b3⟩, b4⟩, b5⟩ := hb
          obtain ⟨q1, q2, q3, q4⟩ := HQ.out
          refine hP ⟨q1.trans b1, ?_, q3.trans b3, by omega, by have := HSZ.out; omega⟩
          rw [q2, b2]
      subst hBf
      have HNP := Lib.hid hP
      clear hP
      go_enter Tryz.func10, Tryz.ntmps10
      go_wp2_with fail
      refine (HN.out _).mono ?_; rintro e w4 ⟨hb4, rfl⟩
      have hT : Tk R9 w.heap.size k wd n 0 w4 := (hb4.block _ (by simp)).trans (Tk.made w)
      have hz4 : w.heap.size < w4.heap.size := Nat.lt_of_lt_of_le (by simp) hb4.size
      have hb4 : Below w.heap.size w w4 := ((Below.refl _ _).alloc (Nat.le_refl _) _).trans (hb4.mono (by simp))
      have g0 := hT.c0
      have g1 := hT.c1
      have g2 := hT.c2
      have g3 := hT.c3
      have gf := hT.fz
      rw [HVV.out]
      go_wp2_with fail
      all_goals first
        | (go_ret2; exact ⟨hb4.alloc (Nat.le_of_lt hz4) _, by rw [HSS.out]; rfl⟩)
        | (have hF : ((m : Int) == (V.size : Int)) = false := by
            rw [beq_eq_false_iff_ne]; intro hme
            exact HNP.out ⟨by assumption, bytes_inj (by assumption), by assumption, by assumption, hme⟩
           go_ret2
           exact ⟨hb4.alloc (Nat.le_of_lt hz4) _, by rw [HSS.out]; exact ret2 rfl (congrArg Value.bool hF)⟩)
end Lx
end Go.Proofs.YtpfaldcfnhjlgaaGreatDoor
namespace Go.Proofs.YtpfaldcfnhjlgaaGreatDoor
open Go.RowKit
namespace Lx
variable {k n a : Int} {wd : ByteArray} {w : World}
theorem rspell_any (hk : -9223372036854775808 ≤ k ∧ k ≤ 9223372036854775807) (h0 : -9223372036854775808 ≤ n) (h1 : n ≤ 9223372036854775807) (hs : wd.size ≤ 35184372088832) :
    Calls Tryz.prog 10 #[.agg #[.int .i64 k, .string wd, .int .i64 n, .int .i64 a]] w (RSpelt (spelledL k wd.data.toList n) (spellB (spelledL k wd.data.toList n) k wd.data.toList n) w) := by
  by_cases e1 : k = 1
  · exact rspell_word1 hk h0 h1 hs e1
  by_cases e2 : k = 2
  · exact rspell_word2 hk h0 h1 hs e2
  by_cases e6 : k = 6
  · exact rspell_word6 hk h0 h1 hs e6
  by_cases e3 : k = 3
  · exact rspell_num hk h0 h1 hs e3
  by_cases e4 : k = 4
  · exact rspell_text hk h0 h1 hs e4
  by_cases e5 : k = 5
  · by_cases ha : arityP wd.data.toList < 0
    · exact rspell_symq hk h0 h1 hs ⟨e5, ha⟩
    · exact rspell_sym hk h0 h1 hs ⟨e5, ha⟩
  by_cases e7 : k = 7
  · exact rspell_assign hk h0 h1 hs e7
  by_cases e15 : k = 15
  · exact rspell_paren hk h0 h1 hs e15
  by_cases e16 : k = 16
  · exact rspell_colon hk h0 h1 hs e16
  by_cases e8 : k = 8
  · exact rspell_mark8 hk h0 h1 hs e8
  by_cases e9 : k = 9
  · exact rspell_mark9 hk h0 h1 hs e9
  by_cases e10 : k = 10
  · exact rspell_mark10 hk h0 h1 hs e10
  by_cases e11 : k = 11
  · exact rspell_mark11 hk h0 h1 hs e11
  by_cases e12 : k = 12
  · exact rspell_mark12 hk h0 h1 hs e12
  by_cases e13 : k = 13
  · exact rspell_mark13 hk h0 h1 hs e13
  by_cases e14 : k = 14
  · exact rspell_mark14 hk h0 h1 hs e14
  exact rspell_none hk h0 h1 hs (by omega)
end Lx
end Go.Proofs.YtpfaldcfnhjlgaaGreatDoor
