/- Package lex, the walk, 12: symbol's name, operator (wip/gen/gen_sym.py prints this). -/
import Derived.Test.YthdigbkcffihkaaGreatDoorLxW9
set_option linter.unusedVariables false
namespace Go.Proofs.YthdigbkcffihkaaGreatDoor
open Go.RowKit
namespace Lx
theorem tw_pos {r : Bytes} {c : UInt8} (hc : hd r 0 = c) (hl : letter c = true) : 0 < (r.takeWhile alnum).length := by
  cases r with
  | nil => subst hc; exact absurd hl (by decide)
  | cons d t =>
    obtain rfl : d = c := hc
    rw [List.takeWhile_cons, if_pos (by unfold alnum; rw [hl]; rfl)]; simp
variable {b at_ : Nat} {s : ByteArray} {w : World}
set_option maxHeartbeats 8000000 in
theorem symbol_name (hs : s.size ≤ 140737488351232) (hat : at_ + 1 ≤ s.size) (hrd : Rd RT b s (at_ + 1) w) (h40 : hd (s.data.toList.drop (at_ + 1)) 0 ≠ 40) (h39 : hd (s.data.toList.drop (at_ + 1)) 0 ≠ 39) (hl : letter (hd (s.data.toList.drop (at_ + 1)) 0) = true) (hk : kwL (s.data.toList.drop (at_ + 1)) = 0) :
    Calls Tryz.prog 104 #[.pointer (some ⟨b, 0, none⟩), .int .i64 (at_ : Int)] w (Toked b s at_ (symR (s.data.toList.drop (at_ + 1))) w) := by
  obtain ⟨c, hc⟩ : ∃ c, hd (s.data.toList.drop (at_ + 1)) 0 = c := ⟨_, rfl⟩
  rw [hc] at h40 h39 hl
  have hn40 : ((c.toNat : Int) == 40) = false := bne_u8 c 40 (by omega) h40
  have hn39 : ((c.toNat : Int) == 39) = false := bne_u8 c 39 (by omega) h39
  have hkl := symL_le (s.data.toList.drop (at_ + 1))
  rw [dlen] at hkl
  have hsym : symR (s.data.toList.drop (at_ + 1)) = if symL (s.data.toList.drop (at_ + 1)) = 0 then .error (0, 3) else if 64 < symL (s.data.toList.drop (at_ + 1)) then .error (0, 2) else .ok (⟨5, (s.data.toList.drop (at_ + 1)).take (symL (s.data.toList.drop (at_ + 1))), 0, 0⟩, symL (s.data.toList.drop (at_ + 1)) + 1) := by
    unfold symR; rw [hc, if_neg h40, if_neg h39]
  have hq : symL (s.data.toList.drop (at_ + 1)) = nameL (s.data.toList.drop (at_ + 1)) := by unfold symL; rw [hc, if_pos hl, if_pos hk]
  have HK := fun (v : World) (hv : Rd RT b s (at_ + 1) v) => keywords_any hs hat hv
  have HN := fun (v : World) (hv : Rd RT b s (at_ + 1) v) => name_any hs hat hv
  rw [hk] at HK
  rw [hq] at hsym hkl
  have hq0 : nameL (s.data.toList.drop (at_ + 1)) ≠ 0 := by unfold nameL; rw [hc, if_pos hl, Nat.ne_zero_iff_zero_lt]; exact tw_pos hc hl
  obtain ⟨q, hqq⟩ : ∃ q, nameL (s.data.toList.drop (at_ + 1)) = q := ⟨_, rfl⟩
  rw [hqq] at hsym hkl HN hq hq0
  clear hqq
  have hkl : at_ + 1 + q ≤ s.size := by omega
  have hxl := ext_size s (at_ + 1) (at_ + 1 + q) (by omega) hkl
  have hy0 := ext_none s (at_ + 1)
  obtain ⟨x0, hxx⟩ : ∃ x0, s.extract (at_ + 1) (at_ + 1) = x0 := ⟨_, rfl⟩
  rw [Nat.add_zero, hxx] at HK
  rw [hxx] at hy0
  clear hxx
  have hy1 : x0.toList.isEmpty = true := by rw [hy0]; rfl
  obtain ⟨x, hx⟩ : ∃ x, s.extract (at_ + 1) (at_ + 1 + q) = x := ⟨_, rfl⟩
  rw [hx] at hxl HN
  have HK := Lib.hid HK
  have HN := Lib.hid HN
  have HX := Lib.hid hx; clear hx hk
  by_cases h64 : 64 < q
  · have hE : symR (s.data.toList.drop (at_ + 1)) = .error (0, 2) := by rw [hsym]; exact (if_neg hq0).trans (if_pos h64)
    have hx64 : 64 < x.size := by omega
    clear hsym h64 hq0 hxl hq
    rw [hE]
    have hbl := hrd.lt
    have hne1 : ¬ b = w.heap.size := by omega
    have hne2 : ¬ w.heap.size = b := by omega
    have hne3 : ¬ b = w.heap.size + 1 := by omega
    have hne4 : ¬ w.heap.size + 1 = b := by omega
    have hne5 : ¬ w.heap.size = w.heap.size + 1 := by omega
    have hne6 : ¬ w.heap.size + 1 = w.heap.size := by omega
    go_enter Tryz.func104, Tryz.ntmps104
    go_wp2_with fail
    have hS := St.made hrd 5 (at_ : Int)
    obtain ⟨W, hW⟩ : ∃ W, (w.alloc (Obj.cells #[.int .i64 0, .string ⟨#[]⟩, .int .i64 0, .int .i64 0] TT)).alloc (Obj.cells #[.int .i64 5, .string ⟨#[]⟩, .int .i64 0, .int .i64 (at_ : Int)] TT) = W := ⟨_, rfl⟩
    rw [hW] at hS ⊢
    clear hW
    refine (peekR0 hs hat hS.rd).mono ?_; rintro e w1 ⟨rfl, n1, hw⟩
    have hS : St b s (at_ + 1) 5 (at_ : Int) ⟨#[]⟩ w w1 := by rw [hw]; exact hS.drewN _
    clear hw
    rw [hc]
    go_wp2_with fail
    refine (peekR0 hs hat hS.rd).mono ?_; rintro e w2 ⟨rfl, n1, hw⟩
    have hS : St b s (at_ + 1) 5 (at_ : Int) ⟨#[]⟩ w w2 := by rw [hw]; exact hS.drewN _
    clear hw
    rw [hc]
    go_wp2_with fail
    refine (peekR0 hs hat hS.rd).mono ?_; rintro e w3 ⟨rfl, n1, hw⟩
    have hS : St b s (at_ + 1) 5 (at_ : Int) ⟨#[]⟩ w w3 := by rw [hw]; exact hS.drewN _
    clear hw
    rw [hc]
    go_wp2_with fail
    refine (letter_any c _).mono ?_; rintro e w' ⟨rfl, rfl⟩
    rw [hl]
    go_wp2_with fail
    refine ((HK.out _ hS.rd)).mono ?_; rintro e w4 ⟨rfl, hr4, hm4⟩
    have hS := hS.call hbl hr4 hm4
    have e0 := hS.t0.c0
    have e1 := hS.t0.c1
    have e2 := hS.t0.c2
    have e3 := hS.t0.c3
    have ef := hS.t0.fz
    have g0 := hS.t1.c0
    have g1 := hS.t1.c1
    have g2 := hS.t1.c2
    have g3 := hS.t1.c3
    have gf := hS.t1.fz
    go_wp2_with fail
    clear e0 e1 e2 e3 ef g0 g1 g2 g3 gf
    have hS := hS.word hbl (x0)
    obtain ⟨w6, hW⟩ : ∃ W', w4.setCell ⟨w.heap.size + 1, 1, none⟩ (.string (x0)) = W' := ⟨_, rfl⟩
    rw [hW] at hS ⊢
    clear hW
    have e0 := hS.t0.c0
    have e1 := hS.t0.c1
    have e2 := hS.t0.c2
    have e3 := hS.t0.c3
    have ef := hS.t0.fz
    have g0 := hS.t1.c0
    have g1 := hS.t1.c1
    have g2 := hS.t1.c2
    have g3 := hS.t1.c3
    have gf := hS.t1.fz
    go_wp2_with fail
    refine ((HN.out _ hS.rd)).mono ?_; rintro e w7 ⟨rfl, hr7, hm7⟩
    clear e0 e1 e2 e3 ef g0 g1 g2 g3 gf
    have hS := hS.call hbl hr7 hm7
    have e0 := hS.t0.c0
    have e1 := hS.t0.c1
    have e2 := hS.t0.c2
    have e3 := hS.t0.c3
    have ef := hS.t0.fz
    have g0 := hS.t1.c0
    have g1 := hS.t1.c1
    have g2 := hS.t1.c2
    have g3 := hS.t1.c3
    have gf := hS.t1.fz
    go_wp2_with fail
    clear e0 e1 e2 e3 ef g0 g1 g2 g3 gf
    have hS := hS.word hbl (x)
    obtain ⟨w8, hW⟩ : ∃ W', w7.setCell ⟨w.heap.size + 1, 1, none⟩ (.string (x)) = W' := ⟨_, rfl⟩
    rw [hW] at hS ⊢
    clear hW
    have e0 := hS.t0.c0
    have e1 := hS.t0.c1
    have e2 := hS.t0.c2
    have e3 := hS.t0.c3
    have ef := hS.t0.fz
    have g0 := hS.t1.c0
    have g1 := hS.t1.c1
    have g2 := hS.t1.c2
    have g3 := hS.t1.c3
    have gf := hS.t1.fz
    go_wp2_with fail
    refine (word_long _ x _ hx64).mono ?_; rintro e w9 ⟨rfl, rfl⟩
    go_wp2
    exact ⟨rfl, rfl, hS.mv⟩
  · have hE : symR (s.data.toList.drop (at_ + 1)) = .ok (⟨5, (s.data.toList.drop (at_ + 1)).take q, 0, 0⟩, q + 1) := by rw [hsym]; exact (if_neg hq0).trans (if_neg h64)
    have hx64 : x.size ≤ 64 := by omega
    clear hsym h64 hq0 hxl hq
    rw [hE]
    have hbl := hrd.lt
    have hne1 : ¬ b = w.heap.size := by omega
    have hne2 : ¬ w.heap.size = b := by omega
    have hne3 : ¬ b = w.heap.size + 1 := by omega
    have hne4 : ¬ w.heap.size + 1 = b := by omega
    have hne5 : ¬ w.heap.size = w.heap.size + 1 := by omega
    have hne6 : ¬ w.heap.size + 1 = w.heap.size := by omega
    go_enter Tryz.func104, Tryz.ntmps104
    go_wp2_with fail
    have hS := St.made hrd 5 (at_ : Int)
    obtain ⟨W, hW⟩ : ∃ W, (w.alloc (Obj.cells #[.int .i64 0, .string ⟨#[]⟩, .int .i64 0, .int .i64 0] TT)).alloc (Obj.cells #[.int .i64 5, .string ⟨#[]⟩, .int .i64 0, .int .i64 (at_ : Int)] TT) = W := ⟨_, rfl⟩
    rw [hW] at hS ⊢
    clear hW
    refine (peekR0 hs hat hS.rd).mono ?_; rintro e w1 ⟨rfl, n1, hw⟩
    have hS : St b s (at_ + 1) 5 (at_ : Int) ⟨#[]⟩ w w1 := by rw [hw]; exact hS.drewN _
    clear hw
    rw [hc]
    go_wp2_with fail
    refine (peekR0 hs hat hS.rd).mono ?_; rintro e w2 ⟨rfl, n1, hw⟩
    have hS : St b s (at_ + 1) 5 (at_ : Int) ⟨#[]⟩ w w2 := by rw [hw]; exact hS.drewN _
    clear hw
    rw [hc]
    go_wp2_with fail
    refine (peekR0 hs hat hS.rd).mono ?_; rintro e w3 ⟨rfl, n1, hw⟩
    have hS : St b s (at_ + 1) 5 (at_ : Int) ⟨#[]⟩ w w3 := by rw [hw]; exact hS.drewN _
    clear hw
    rw [hc]
    go_wp2_with fail
    refine (letter_any c _).mono ?_; rintro e w' ⟨rfl, rfl⟩
    rw [hl]
    go_wp2_with fail
    refine ((HK.out _ hS.rd)).mono ?_; rintro e w4 ⟨rfl, hr4, hm4⟩
    have hS := hS.call hbl hr4 hm4
    have e0 := hS.t0.c0
    have e1 := hS.t0.c1
    have e2 := hS.t0.c2
    have e3 := hS.t0.c3
    have ef := hS.t0.fz
    have g0 := hS.t1.c0
    have g1 := hS.t1.c1
    have g2 := hS.t1.c2
    have g3 := hS.t1.c3
    have gf := hS.t1.fz
    go_wp2_with fail
    clear e0 e1 e2 e3 ef g0 g1 g2 g3 gf
    have hS := hS.word hbl (x0)
    obtain ⟨w6, hW⟩ : ∃ W', w4.setCell ⟨w.heap.size + 1, 1, none⟩ (.string (x0)) = W' := ⟨_, rfl⟩
    rw [hW] at hS ⊢
    clear hW
    have e0 := hS.t0.c0
    have e1 := hS.t0.c1
    have e2 := hS.t0.c2
    have e3 := hS.t0.c3
    have ef := hS.t0.fz
    have g0 := hS.t1.c0
    have g1 := hS.t1.c1
    have g2 := hS.t1.c2
    have g3 := hS.t1.c3
    have gf := hS.t1.fz
    go_wp2_with fail
    refine ((HN.out _ hS.rd)).mono ?_; rintro e w7 ⟨rfl, hr7, hm7⟩
    clear e0 e1 e2 e3 ef g0 g1 g2 g3 gf
    have hS := hS.call hbl hr7 hm7
    have e0 := hS.t0.c0
    have e1 := hS.t0.c1
    have e2 := hS.t0.c2
    have e3 := hS.t0.c3
    have ef := hS.t0.fz
    have g0 := hS.t1.c0
    have g1 := hS.t1.c1
    have g2 := hS.t1.c2
    have g3 := hS.t1.c3
    have gf := hS.t1.fz
    go_wp2_with fail
    clear e0 e1 e2 e3 ef g0 g1 g2 g3 gf
    have hS := hS.word hbl (x)
    obtain ⟨w8, hW⟩ : ∃ W', w7.setCell ⟨w.heap.size + 1, 1, none⟩ (.string (x)) = W' := ⟨_, rfl⟩
    rw [hW] at hS ⊢
    clear hW
    have e0 := hS.t0.c0
    have e1 := hS.t0.c1
    have e2 := hS.t0.c2
    have e3 := hS.t0.c3
    have ef := hS.t0.fz
    have g0 := hS.t1.c0
    have g1 := hS.t1.c1
    have g2 := hS.t1.c2
    have g3 := hS.t1.c3
    have gf := hS.t1.fz
    go_wp2_with fail
    refine (word_ok _ x _ hx64).mono ?_; rintro e w9 ⟨rfl, rfl⟩
    go_wp2_with fail
    have hS := hS.word hbl x
    refine bodyPost_ret (v := .agg #[.int .i64 5, .string (x), .int .i64 0, .int .i64 (at_ : Int)]) (by simp [results, Tryz.results104, go_sem, e0, e1, e2, e3]) rfl ?_
    obtain ⟨f1, f2⟩ := fin4 hS.rd hS.mv hbl (.int .i64 5) (.string (x)) (.int .i64 0) (.int .i64 (at_ : Int))
    refine ⟨?_, ?_, f2⟩
    · rw [← HX.out, ext_word _ _ _ hkl]; rfl
    · rw [show at_ + (q + 1) = at_ + 1 + q by omega]; exact f1
set_option maxHeartbeats 8000000 in
theorem symbol_oper (hs : s.size ≤ 140737488351232) (hat : at_ + 1 ≤ s.size) (hrd : Rd RT b s (at_ + 1) w) (h40 : hd (s.data.toList.drop (at_ + 1)) 0 ≠ 40) (h39 : hd (s.data.toList.drop (at_ + 1)) 0 ≠ 39) (hl : letter (hd (s.data.toList.drop (at_ + 1)) 0) = false) :
    Calls Tryz.prog 104 #[.pointer (some ⟨b, 0, none⟩), .int .i64 (at_ : Int)] w (Toked b s at_ (symR (s.data.toList.drop (at_ + 1))) w) := by
  obtain ⟨c, hc⟩ : ∃ c, hd (s.data.toList.drop (at_ + 1)) 0 = c := ⟨_, rfl⟩
  rw [hc] at h40 h39 hl
  have hn40 : ((c.toNat : Int) == 40) = false := bne_u8 c 40 (by omega) h40
  have hn39 : ((c.toNat : Int) == 39) = false := bne_u8 c 39 (by omega) h39
  have hkl := symL_le (s.data.toList.drop (at_ + 1))
  rw [dlen] at hkl
  have hsym : symR (s.data.toList.drop (at_ + 1)) = if symL (s.data.toList.drop (at_ + 1)) = 0 then .error (0, 3) else if 64 < symL (s.data.toList.drop (at_ + 1)) then .error (0, 2) else .ok (⟨5, (s.data.toList.drop (at_ + 1)).take (symL (s.data.toList.drop (at_ + 1))), 0, 0⟩, symL (s.data.toList.drop (at_ + 1)) + 1) := by
    unfold symR; rw [hc, if_neg h40, if_neg h39]
  have hq : symL (s.data.toList.drop (at_ + 1)) = operL (s.data.toList.drop (at_ + 1)) := by unfold symL; rw [hc, hl]; rfl
  have HO := fun (v : World) (hv : Rd RT b s (at_ + 1) v) => oper_any hs hat hv
  have hq2 : operL (s.data.toList.drop (at_ + 1)) ≤ 2 := by unfold operL; split <;> (try split) <;> (try split) <;> omega
  rw [hq] at hsym hkl
  obtain ⟨q, hqq⟩ : ∃ q, operL (s.data.toList.drop (at_ + 1)) = q := ⟨_, rfl⟩
  rw [hqq] at hsym hkl HO hq hq2
  clear hqq
  have hkl : at_ + 1 + q ≤ s.size := by omega
  have hxl := ext_size s (at_ + 1) (at_ + 1 + q) (by omega) hkl
  by_cases hq0 : q = 0
  · subst hq0
    have hE : symR (s.data.toList.drop (at_ + 1)) = .error (0, 3) := hsym
    have hy0 := ext_none s (at_ + 1)
    rw [Nat.add_zero] at HO
    obtain ⟨x, hxx⟩ : ∃ x, s.extract (at_ + 1) (at_ + 1) = x := ⟨_, rfl⟩
    rw [hxx] at hy0 HO
    have hy1 : x.toList.isEmpty = true := by rw [hy0]; rfl
    have HO := Lib.hid HO
    clear hxx hsym hxl hq
    rw [hE]
    have hbl := hrd.lt
    have hne1 : ¬ b = w.heap.size := by omega
    have hne2 : ¬ w.heap.size = b := by omega
    have hne3 : ¬ b = w.heap.size + 1 := by omega
    have hne4 : ¬ w.heap.size + 1 = b := by omega
    have hne5 : ¬ w.heap.size = w.heap.size + 1 := by omega
    have hne6 : ¬ w.heap.size + 1 = w.heap.size := by omega
    go_enter Tryz.func104, Tryz.ntmps104
    go_wp2_with fail
    have hS := St.made hrd 5 (at_ : Int)
    obtain ⟨W, hW⟩ : ∃ W, (w.alloc (Obj.cells #[.int .i64 0, .string ⟨#[]⟩, .int .i64 0, .int .i64 0] TT)).alloc (Obj.cells #[.int .i64 5, .string ⟨#[]⟩, .int .i64 0, .int .i64 (at_ : Int)] TT) = W := ⟨_, rfl⟩
    rw [hW] at hS ⊢
    clear hW
    refine (peekR0 hs hat hS.rd).mono ?_; rintro e w1 ⟨rfl, n1, hw⟩
    have hS : St b s (at_ + 1) 5 (at_ : Int) ⟨#[]⟩ w w1 := by rw [hw]; exact hS.drewN _
    clear hw
    rw [hc]
    go_wp2_with fail
    refine (peekR0 hs hat hS.rd).mono ?_; rintro e w2 ⟨rfl, n1, hw⟩
    have hS : St b s (at_ + 1) 5 (at_ : Int) ⟨#[]⟩ w w2 := by rw [hw]; exact hS.drewN _
    clear hw
    rw [hc]
    go_wp2_with fail
    refine (peekR0 hs hat hS.rd).mono ?_; rintro e w3 ⟨rfl, n1, hw⟩
    have hS : St b s (at_ + 1) 5 (at_ : Int) ⟨#[]⟩ w w3 := by rw [hw]; exact hS.drewN _
    clear hw
    rw [hc]
    go_wp2_with fail
    refine (letter_any c _).mono ?_; rintro e w' ⟨rfl, rfl⟩
    rw [hl]
    go_wp2_with fail
    refine ((HO.out _ hS.rd)).mono ?_; rintro e w4 ⟨rfl, hr4, hm4⟩
    have hS := hS.call hbl hr4 hm4
    have e0 := hS.t0.c0
    have e1 := hS.t0.c1
    have e2 := hS.t0.c2
    have e3 := hS.t0.c3
    have ef := hS.t0.fz
    have g0 := hS.t1.c0
    have g1 := hS.t1.c1
    have g2 := hS.t1.c2
    have g3 := hS.t1.c3
    have gf := hS.t1.fz
    go_wp2_with fail
    clear e0 e1 e2 e3 ef g0 g1 g2 g3 gf
    have hS := hS.word hbl (x)
    obtain ⟨w6, hW⟩ : ∃ W', w4.setCell ⟨w.heap.size + 1, 1, none⟩ (.string (x)) = W' := ⟨_, rfl⟩
    rw [hW] at hS ⊢
    clear hW
    have e0 := hS.t0.c0
    have e1 := hS.t0.c1
    have e2 := hS.t0.c2
    have e3 := hS.t0.c3
    have ef := hS.t0.fz
    have g0 := hS.t1.c0
    have g1 := hS.t1.c1
    have g2 := hS.t1.c2
    have g3 := hS.t1.c3
    have gf := hS.t1.fz
    go_wp2_with fail
    refine (stop_any (at_ : Int) 3 _).mono ?_; rintro e w' ⟨rfl, rfl⟩
    go_wp2
    exact ⟨rfl, rfl, hS.mv⟩
  · have hE : symR (s.data.toList.drop (at_ + 1)) = .ok (⟨5, (s.data.toList.drop (at_ + 1)).take q, 0, 0⟩, q + 1) := by rw [hsym]; exact (if_neg hq0).trans (if_neg (by omega))
    have hy0 := ext_some s (at_ + 1) (at_ + 1 + q) (by omega) hkl
    obtain ⟨x, hx⟩ : ∃ x, s.extract (at_ + 1) (at_ + 1 + q) = x := ⟨_, rfl⟩
    rw [hx] at hxl hy0 HO
    have hy1 : x.toList.isEmpty = false := by cases hl : x.toList with | nil => exact absurd hl hy0 | cons _ _ => rfl
    have hx64 : x.size ≤ 64 := by omega
    have HO := Lib.hid HO
    have HX := Lib.hid hx; clear hx hsym hxl hq
    rw [hE]
    have hbl := hrd.lt
    have hne1 : ¬ b = w.heap.size := by omega
    have hne2 : ¬ w.heap.size = b := by omega
    have hne3 : ¬ b = w.heap.size + 1 := by omega
    have hne4 : ¬ w.heap.size + 1 = b := by omega
    have hne5 : ¬ w.heap.size = w.heap.size + 1 := by omega
    have hne6 : ¬ w.heap.size + 1 = w.heap.size := by omega
    go_enter Tryz.func104, Tryz.ntmps104
    go_wp2_with fail
    have hS := St.made hrd 5 (at_ : Int)
    obtain ⟨W, hW⟩ : ∃ W, (w.alloc (Obj.cells #[.int .i64 0, .string ⟨#[]⟩, .int .i64 0, .int .i64 0] TT)).alloc (Obj.cells #[.int .i64 5, .string ⟨#[]⟩, .int .i64 0, .int .i64 (at_ : Int)] TT) = W := ⟨_, rfl⟩
    rw [hW] at hS ⊢
    clear hW
    refine (peekR0 hs hat hS.rd).mono ?_; rintro e w1 ⟨rfl, n1, hw⟩
    have hS : St b s (at_ + 1) 5 (at_ : Int) ⟨#[]⟩ w w1 := by rw [hw]; exact hS.drewN _
    clear hw
    rw [hc]
    go_wp2_with fail
    refine (peekR0 hs hat hS.rd).mono ?_; rintro e w2 ⟨rfl, n1, hw⟩
    have hS : St b s (at_ + 1) 5 (at_ : Int) ⟨#[]⟩ w w2 := by rw [hw]; exact hS.drewN _
    clear hw
    rw [hc]
    go_wp2_with fail
    refine (peekR0 hs hat hS.rd).mono ?_; rintro e w3 ⟨rfl, n1, hw⟩
    have hS : St b s (at_ + 1) 5 (at_ : Int) ⟨#[]⟩ w w3 := by rw [hw]; exact hS.drewN _
    clear hw
    rw [hc]
    go_wp2_with fail
    refine (letter_any c _).mono ?_; rintro e w' ⟨rfl, rfl⟩
    rw [hl]
    go_wp2_with fail
    refine ((HO.out _ hS.rd)).mono ?_; rintro e w4 ⟨rfl, hr4, hm4⟩
    have hS := hS.call hbl hr4 hm4
    have e0 := hS.t0.c0
    have e1 := hS.t0.c1
    have e2 := hS.t0.c2
    have e3 := hS.t0.c3
    have ef := hS.t0.fz
    have g0 := hS.t1.c0
    have g1 := hS.t1.c1
    have g2 := hS.t1.c2
    have g3 := hS.t1.c3
    have gf := hS.t1.fz
    go_wp2_with fail
    clear e0 e1 e2 e3 ef g0 g1 g2 g3 gf
    have hS := hS.word hbl (x)
    obtain ⟨w6, hW⟩ : ∃ W', w4.setCell ⟨w.heap.size + 1, 1, none⟩ (.string (x)) = W' := ⟨_, rfl⟩
    rw [hW] at hS ⊢
    clear hW
    have e0 := hS.t0.c0
    have e1 := hS.t0.c1
    have e2 := hS.t0.c2
    have e3 := hS.t0.c3
    have ef := hS.t0.fz
    have g0 := hS.t1.c0
    have g1 := hS.t1.c1
    have g2 := hS.t1.c2
    have g3 := hS.t1.c3
    have gf := hS.t1.fz
    go_wp2_with fail
    refine (word_ok _ x _ hx64).mono ?_; rintro e w9 ⟨rfl, rfl⟩
    go_wp2_with fail
    have hS := hS.word hbl x
    refine bodyPost_ret (v := .agg #[.int .i64 5, .string (x), .int .i64 0, .int .i64 (at_ : Int)]) (by simp [results, Tryz.results104, go_sem, e0, e1, e2, e3]) rfl ?_
    obtain ⟨f1, f2⟩ := fin4 hS.rd hS.mv hbl (.int .i64 5) (.string (x)) (.int .i64 0) (.int .i64 (at_ : Int))
    refine ⟨?_, ?_, f2⟩
    · rw [← HX.out, ext_word _ _ _ hkl]; rfl
    · rw [show at_ + (q + 1) = at_ + 1 + q by omega]; exact f1
end Lx
end Go.Proofs.YthdigbkcffihkaaGreatDoor
