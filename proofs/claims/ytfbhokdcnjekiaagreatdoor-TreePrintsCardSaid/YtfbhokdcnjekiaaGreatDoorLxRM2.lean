/- The reference's lexer, Next: its end (wip/gen/gen_r7.py prints this). · The reference's lexer, Next: single bytes (wip/gen/gen_r7.py prints this). · The reference's lexer, Next: texts, symbols (wip/gen/gen_r7.py prints this). · The reference's lexer, Next: digits (wip/gen/gen_r7.py prints this). · The reference's lexer, Next: marks, operators (wip/gen/gen_r7.py prints this). · The reference's lexer: Next, from place 0, whatever stands there. · The reference's lexer: All. · The reference's lexer: Arity. -/
import Derived.Test.YtfbhokdcnjekiaaGreatDoorLxRM1
import Derived.Test.YtfbhokdcnjekiaaGreatDoorLxE3
set_option linter.unusedVariables false
namespace Go.Proofs.YtfbhokdcnjekiaaGreatDoor
open Go.RowKit
namespace Lx
variable {s : ByteArray} {p : Nat} {w : World}
end Lx
end Go.Proofs.YtfbhokdcnjekiaaGreatDoor
namespace Go.Proofs.YtfbhokdcnjekiaaGreatDoor
open Go.RowKit
namespace Lx
variable {s : ByteArray} {p : Nat} {w : World}
end Lx
end Go.Proofs.YtfbhokdcnjekiaaGreatDoor
namespace Go.Proofs.YtfbhokdcnjekiaaGreatDoor
open Go.RowKit
namespace Lx
variable {s : ByteArray} {p : Nat} {w : World}
set_option maxRecDepth 100000 in
set_option maxHeartbeats 3200000 in
theorem rnext_hash (hs : s.size ≤ 140737488355327) {a : Nat} (ha : a ≤ s.size) (hk : sk none a (s.data.toList.drop a) = .ok p) (hp2 : p ≤ s.size) (hlt : p < s.size) (hcv : s[p] = 35) :
  Calls Tryz.prog 153 #[.string s, .int .i64 (a : Int)] w (Nexted p (tokR (s.data.toList.drop p)) w) := by
 have hr : s.data.toList.drop p = s[p] :: s.data.toList.drop (p + 1) := drop_cons s p hlt
 have hE : tokR (s.data.toList.drop p) = symR (s.data.toList.drop (p + 1)) := by rw [hr, hcv]; rfl
 rw [hE]
 have HS0 := fun v : World => rsym_any (s := s) (at_ := p) (w := v) hs hlt
 obtain ⟨E, hEE⟩ : ∃ E, symR (s.data.toList.drop (p + 1)) = E := ⟨_, rfl⟩
 rw [hEE] at HS0 ⊢
 have HS := Lib.hid HS0
 have hl : letter s[p] = false := by rw [hcv]; rfl
 have hdg : digit s[p] = false := by rw [hcv]; rfl
 have hpi : (p : Int) < (s.size : Int) := by omega
 have hpe : ((p : Int) == (s.size : Int)) = false := by rw [beq_eq_false_iff_ne]; omega
 obtain ⟨c, hc⟩ : ∃ c, s[p] = c := ⟨_, rfl⟩
 rw [hc] at hl hdg hcv
 have n36 : ((c.toNat : Int) == 36) = false := by rw [hcv]; rfl
 have n39 : ((c.toNat : Int) == 39) = false := by rw [hcv]; rfl
 have n35 : ((c.toNat : Int) == 35) = true := by rw [hcv]; rfl
 clear hE hr hcv hEE HS0
 have hT4 : Tk R9 w.heap.size 0 ⟨#[]⟩ 0 0 ((w.alloc (Obj.cells #[.int .i64 0, .string ⟨#[]⟩, .int .i64 0, .int .i64 0] R9)).alloc (Obj.cells #[.int .i64 0, .string ⟨#[]⟩, .int .i64 0, .int .i64 (p : Int)] R9)) := (Tk.made w).alloc _
 have hT7 : Tk R9 (w.heap.size + 1) 0 ⟨#[]⟩ 0 (p : Int) ((w.alloc (Obj.cells #[.int .i64 0, .string ⟨#[]⟩, .int .i64 0, .int .i64 0] R9)).alloc (Obj.cells #[.int .i64 0, .string ⟨#[]⟩, .int .i64 0, .int .i64 (p : Int)] R9)) := by
  have := Tk.made (T := R9) (kd := 0) (wd := ⟨#[]⟩) (n := 0) (a := (p : Int)) (w.alloc (Obj.cells #[.int .i64 0, .string ⟨#[]⟩, .int .i64 0, .int .i64 0] R9)); simpa using this
 have hB0 : Below w.heap.size w ((w.alloc (Obj.cells #[.int .i64 0, .string ⟨#[]⟩, .int .i64 0, .int .i64 0] R9)).alloc (Obj.cells #[.int .i64 0, .string ⟨#[]⟩, .int .i64 0, .int .i64 (p : Int)] R9)) := ((Below.refl _ _).alloc (Nat.le_refl _) _).alloc (by simp) _
 have HSK := fun v : World => rskip_any (s := s) (at_ := a) (w := v) (by omega) ha
 rw [hk] at HSK
 have HSK := Lib.hid HSK
 have hsz0 : ¬ (s.size : Int) < (a : Int) ∧ ¬ (a : Int) < 0 := by omega
 clear hk
 go_enter Tryz.func153, Tryz.ntmps153
 go_wp2_with fail
 refine (HSK.out _).mono ?_; rintro e w' ⟨rfl, rfl⟩
 go_wp2_with fail
 refine (rletter_any c _).mono ?_; rintro e w' ⟨rfl, rfl⟩
 rw [hl]
 go_wp2_with fail
 refine (rdigit_any c _).mono ?_; rintro e w' ⟨rfl, rfl⟩
 rw [hdg]
 go_wp2_with fail
 refine (HS.out _).mono ?_; intro e w3 ht
 obtain ⟨hb3, ht⟩ := ht
 have hT4 := (hb3.block _ hT4.lt).trans hT4
 have hT7 := (hb3.block _ hT7.lt).trans hT7
 have hT4 : Tk R9 w.heap.size 0 ⟨#[]⟩ 0 0 w3 := hT4
 have hT7 : Tk R9 (w.heap.size + 1) 0 ⟨#[]⟩ 0 (p : Int) w3 := hT7
 have hb3 := hB0.trans (hb3.mono hB0.size)
 have e0 := hT4.c0
 have e1 := hT4.c1
 have e2 := hT4.c2
 have e3 := hT4.c3
 have ef := hT4.fz
 have g0 := hT7.c0
 have g1 := hT7.c1
 have g2 := hT7.c2
 have g3 := hT7.c3
 have gf := hT7.fz
 have hne5 : ¬ w.heap.size = w.heap.size + 1 := by omega
 have hne6 : ¬ w.heap.size + 1 = w.heap.size := by omega
 clear hB0
 cases E with
 | error x =>
  obtain ⟨q, n⟩ := x
  subst ht
  rw [show tokV 0 ⟨0, [], 0, 0⟩ = .agg #[.int .i64 0, .string ⟨#[]⟩, .int .i64 0, .int .i64 0] from rfl]
  obtain ⟨Q, hQ⟩ : ∃ Q : Int, ((p + q : Nat) : Int) = Q := ⟨_, rfl⟩
  rw [hQ]
  go_wp2_with fail
  refine bodyPost_ret (v := .tuple #[.agg #[.int .i64 0, .string ⟨#[]⟩, .int .i64 0, .int .i64 0], .int .i64 (Q), .int .i64 n]) (by simp [results, Tryz.results153, go_sem, e0, e1, e2, e3]) rfl ?_
  exact nexted_err (below4 hb3 (Nat.le_refl _) _ _ _ _) (by simp [tokV]) hQ.symm
 | ok y =>
  obtain ⟨t, n⟩ := y
  subst ht
  obtain ⟨kd, wd, nn, aa, hV⟩ : ∃ (kd : Int) (wd : ByteArray) (nn aa : Int), tokV p t = .agg #[.int .i64 kd, .string wd, .int .i64 nn, .int .i64 aa] := ⟨_, _, _, _, rfl⟩
  rw [hV]
  obtain ⟨Q, hQ⟩ : ∃ Q : Int, ((p + n : Nat) : Int) = Q := ⟨_, rfl⟩
  rw [hQ]
  have HV := Lib.hid hV
  clear hV
  go_wp2_with fail
  refine bodyPost_ret (v := .tuple #[.agg #[.int .i64 kd, .string wd, .int .i64 nn, .int .i64 aa], .int .i64 (Q), .int .i64 0]) (by simp [results, Tryz.results153, go_sem, e0, e1, e2, e3]) rfl ?_
  exact nexted_ok (below4 hb3 (Nat.le_refl _) _ _ _ _) HV.out.symm hQ.symm
end Lx
end Go.Proofs.YtfbhokdcnjekiaaGreatDoor
namespace Go.Proofs.YtfbhokdcnjekiaaGreatDoor
open Go.RowKit
namespace Lx
variable {s : ByteArray} {p : Nat} {w : World}
end Lx
end Go.Proofs.YtfbhokdcnjekiaaGreatDoor
namespace Go.Proofs.YtfbhokdcnjekiaaGreatDoor
open Go.RowKit
namespace Lx
variable {s : ByteArray} {p : Nat} {w : World}
end Lx
end Go.Proofs.YtfbhokdcnjekiaaGreatDoor
namespace Go.Proofs.YtfbhokdcnjekiaaGreatDoor
open Go.RowKit
namespace Lx
variable {s : ByteArray} {p : Nat} {w : World}
end Lx
end Go.Proofs.YtfbhokdcnjekiaaGreatDoor
namespace Go.Proofs.YtfbhokdcnjekiaaGreatDoor
open Go.RowKit
namespace Lx
variable {s : ByteArray} {w : World}
theorem count_step (s : ByteArray) (k : Nat) (h : k < s.size) : Lib.countByte (s.data.toList.take (k + 1)) 58 = Lib.countByte (s.data.toList.take k) 58 + (if s[k] = 58 then 1 else 0) := by
 have hk : k < s.data.toList.length := h
 have hg : s.data.toList[k] = s[k] := rfl
 rw [List.take_succ_eq_append_getElem hk]
 unfold Lib.countByte
 rw [List.count_append, hg, List.count_singleton]
 by_cases e : s[k] = 58
 · simp [e]
 · simp [e]
set_option maxRecDepth 100000 in
set_option maxHeartbeats 3200000 in
theorem rarity_any (hs : s.size ≤ 140737488355327) :
  Calls Tryz.prog 34 #[.string s] w (Done (.int .i64 (arityP s.data.toList)) w) := by
 have hE0 : arityP s.data.toList = if s.data.toList = [] then (-1 : Int) else if 64 < s.data.toList.length then (-1 : Int) else if kwL s.data.toList = s.data.toList.length then ((Lib.countByte s.data.toList 58 : Nat) : Int) else if nameL s.data.toList = s.data.toList.length then 0 else if operL s.data.toList = s.data.toList.length then 1 else (-1 : Int) := rfl
 have hl : s.data.toList.length = s.size := rfl
 rw [hl] at hE0
 have hHK := fun v : World => rkeywords_any (s := s) (at_ := 0) (w := v) (by omega) (Nat.zero_le _)
 have hHN := fun v : World => rname_any (s := s) (at_ := 0) (w := v) (by omega) (Nat.zero_le _)
 have hHO := fun v : World => roper_any (s := s) (at_ := 0) (w := v) (by omega) (Nat.zero_le _)
 rw [List.drop_zero, Nat.zero_add] at hHK hHN hHO
 have HK := Lib.hid hHK
 have HN := Lib.hid hHN
 have HO := Lib.hid hHO
 clear hHK hHN hHO
 obtain ⟨A, hA⟩ : ∃ A, arityP s.data.toList = A := ⟨_, rfl⟩
 rw [hA] at hE0 ⊢
 clear hA
 by_cases h0 : s.data.toList = []
 · rw [if_pos h0] at hE0
   have hz : s.size = 0 := by rw [← hl, h0]; rfl
   have hzi : (s.size : Int) = 0 := by omega
   subst hE0
   have hzb : ((s.size : Int) == 0) = true := by rw [hzi]; rfl
   clear h0 hl hz hzi
   go_enter Tryz.func34, Tryz.ntmps34
   go_wp2_with fail
   go_ret
   exact ⟨rfl, rfl⟩
 rw [if_neg h0] at hE0
 have hp : 0 < s.size := by rw [← hl]; exact List.length_pos_iff.2 h0
 have hzb : ((s.size : Int) == 0) = false := by rw [beq_eq_false_iff_ne]; omega
 clear h0 hl
 by_cases h64 : 64 < s.size
 · rw [if_pos h64] at hE0
   subst hE0
   have h64i : (64 : Int) < (s.size : Int) := by omega
   go_enter Tryz.func34, Tryz.ntmps34
   go_wp2_with fail
   go_ret
   exact ⟨rfl, rfl⟩
 rw [if_neg h64] at hE0
 have h64i : ¬ (64 : Int) < (s.size : Int) := by omega
 by_cases hk : kwL s.data.toList = s.size
 · rw [if_pos hk] at hE0
   rw [hk] at HK
   have HE := Lib.hid hE0
   clear hE0 hk
   go_enter Tryz.func34, Tryz.ntmps34
   go_wp2_with fail
   refine (HK.out _).mono ?_; rintro e w' ⟨rfl, rfl⟩
   go_wp2_with fail
   go_loop [3, 4] (fun m y => ∃ k : Nat, y = .int .i64 (k : Int) ∧ k ≤ s.size ∧ m = .int .i64 (Lib.countByte (s.data.toList.take k) 58 : Nat)) (fun _ y => s.size - (intOf y).toNat)
   case atStart => exact ⟨0, rfl, Nat.zero_le _, rfl⟩
   case round =>
    obtain ⟨k, rfl, hk1, hm⟩ := hrel
    clear hzb h64 h64i hp
    by_cases hks : k < s.size
    · have hki : (k : Int) < (s.size : Int) := by omega
      have hkw : IntKind.i64.wrap ((k : Int) + 1) = (k : Int) + 1 := IntWalk.i64_in _ (by omega)
      have hst := count_step s k hks
      have hcl : Lib.countByte (s.data.toList.take k) 58 ≤ k := by
       have h1 := List.count_le_length (a := (58 : UInt8)) (l := s.data.toList.take k)
       have h2 := List.length_take_le k s.data.toList
       unfold Lib.countByte; omega
      obtain ⟨N, hN⟩ : ∃ N, Lib.countByte (s.data.toList.take k) 58 = N := ⟨_, rfl⟩
      rw [hN] at hst hm hcl
      have hNw : IntKind.i64.wrap ((N : Int) + 1) = (N : Int) + 1 := IntWalk.i64_in _ (by omega)
      subst hm
      clear hN
      by_cases h58 : s[k] = 58
      · have hb : ((s[k].toNat : Int) == 58) = true := by rw [h58]; rfl
        rw [if_pos h58] at hst
        have HS := Lib.hid hst
        clear h58 hst
        go_wp2_with fail
        exact ⟨⟨k + 1, vint (by omega), by omega, vint (by rw [HS.out]; omega)⟩, by simp only [intOf]; omega⟩
      · have hb : ((s[k].toNat : Int) == 58) = false := bne_u8 _ 58 (by omega) h58
        rw [if_neg h58] at hst
        have HS := Lib.hid hst
        clear h58 hst
        go_wp2_with fail
        exact ⟨⟨k + 1, vint (by omega), by omega, vint (by rw [HS.out]; omega)⟩, by simp only [intOf]; omega⟩
    · have hki : ¬ (k : Int) < (s.size : Int) := by omega
      have htk : s.data.toList.take k = s.data.toList := List.take_of_length_le (show s.data.toList.length ≤ k by have : s.data.toList.length = s.size := rfl; omega)
      rw [htk, ← HE.out] at hm
      subst hm
      clear htk
      go_wp2_with fail
      go_ret
      exact ⟨rfl, rfl⟩
 rw [if_neg hk] at hE0
 have hkb : (((kwL s.data.toList : Nat) : Int) == (s.size : Int)) = false := by rw [beq_eq_false_iff_ne]; omega
 clear hk
 by_cases hn : nameL s.data.toList = s.size
 · rw [if_pos hn] at hE0
   have hnb : (((nameL s.data.toList : Nat) : Int) == (s.size : Int)) = true := by rw [beq_iff_eq]; omega
   subst hE0
   go_enter Tryz.func34, Tryz.ntmps34
   go_wp2_with fail
   refine (HK.out _).mono ?_; rintro e w' ⟨rfl, rfl⟩
   go_wp2_with fail
   refine (HN.out _).mono ?_; rintro e w' ⟨rfl, rfl⟩
   go_wp2_with fail
   go_ret
   exact ⟨rfl, rfl⟩
 rw [if_neg hn] at hE0
 have hnb : (((nameL s.data.toList : Nat) : Int) == (s.size : Int)) = false := by rw [beq_eq_false_iff_ne]; omega
 clear hn
 by_cases ho : operL s.data.toList = s.size
 · rw [if_pos ho] at hE0
   have hob : (((operL s.data.toList : Nat) : Int) == (s.size : Int)) = true := by rw [beq_iff_eq]; omega
   subst hE0
   go_enter Tryz.func34, Tryz.ntmps34
   go_wp2_with fail
   refine (HK.out _).mono ?_; rintro e w' ⟨rfl, rfl⟩
   go_wp2_with fail
   refine (HN.out _).mono ?_; rintro e w' ⟨rfl, rfl⟩
   go_wp2_with fail
   refine (HO.out _).mono ?_; rintro e w' ⟨rfl, rfl⟩
   go_wp2_with fail
   go_ret
   exact ⟨rfl, rfl⟩
 · rw [if_neg ho] at hE0
   have hob : (((operL s.data.toList : Nat) : Int) == (s.size : Int)) = false := by rw [beq_eq_false_iff_ne]; omega
   subst hE0
   go_enter Tryz.func34, Tryz.ntmps34
   go_wp2_with fail
   refine (HK.out _).mono ?_; rintro e w' ⟨rfl, rfl⟩
   go_wp2_with fail
   refine (HN.out _).mono ?_; rintro e w' ⟨rfl, rfl⟩
   go_wp2_with fail
   refine (HO.out _).mono ?_; rintro e w' ⟨rfl, rfl⟩
   go_wp2_with fail
   go_ret
   exact ⟨rfl, rfl⟩
end Lx
end Go.Proofs.YtfbhokdcnjekiaaGreatDoor
