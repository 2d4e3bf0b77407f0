/- Package lex, the walk, next: a keyword (wip/gen/gen_next.py prints this). -/
import Derived.Test.YthdigbkcffihkaaGreatDoorLxN0
import Derived.StillTailTactics
import Derived.RegionTactic
set_option linter.unusedVariables false
namespace Go.Proofs.YthdigbkcffihkaaGreatDoor
open Go.RowKit
namespace Lx
variable {b at_ k p : Nat} {s : ByteArray} {w : World}
theorem tok_letterK {r : Bytes} {c : UInt8} (hc : hd r 0 = c) (hl : letter c = true) : tokR r = if 64 < wordL r then .error (0, 2) else .ok (⟨if colonB (r.drop (nameL r)) then 2 else 1, r.take (wordL r), 0, 0⟩, wordL r) := by
  cases r with
  | nil => subst hc; exact absurd hl (by decide)
  | cons d t =>
    obtain rfl : d = c := hc
    show tokC d t = _
    unfold tokC
    rw [if_pos hl]
set_option maxRecDepth 100000 in
set_option maxHeartbeats 1600000 in
theorem next_keyword (hs : s.size ≤ 140737488351232) (hat : at_ ≤ s.size) (hrd : Rd RT b s at_ w) (hk : sk none 0 (s.data.toList.drop at_) = .ok k) (hp : at_ + k = p) (hp2 : p ≤ s.size) {c : UInt8} (hc : hd (s.data.toList.drop p) 0 = c) (hl : letter c = true) (hcol : colonB (s.data.toList.drop (p + nameL (s.data.toList.drop p))) = true) :
    Calls Tryz.prog 80 #[.pointer (some ⟨b, 0, none⟩)] w (Toked b s p (tokR (s.data.toList.drop p)) w) := by
  have hc0 : c ≠ 0 := by intro h; rw [h] at hl; exact absurd hl (by decide)
  have hlt : p < s.size := hd_in hc hc0
  have hge : decide (s.size ≤ p) = false := by simpa using hlt
  have hge2 : ¬ s.size ≤ p := by omega
  have hE0 := tok_letterK hc hl
  have hnl := nameL_le (s.data.toList.drop p)
  have hwl := wordL_le (s.data.toList.drop p)
  rw [dlen] at hnl hwl
  have HN := fun (v : World) (hv : Rd RT b s p v) => name_any hs hp2 hv
  have hwd : wordL (s.data.toList.drop p) = if colonB (s.data.toList.drop (p + nameL (s.data.toList.drop p))) then nameL (s.data.toList.drop p) + 1 else nameL (s.data.toList.drop p) := by unfold wordL; rw [List.drop_drop]
  rw [List.drop_drop] at hE0
  obtain ⟨q, hq⟩ : ∃ q, nameL (s.data.toList.drop p) = q := ⟨_, rfl⟩
  rw [hq] at hE0 hnl HN hwd
  obtain ⟨z, hz⟩ : ∃ z, wordL (s.data.toList.drop p) = z := ⟨_, rfl⟩
  rw [hz] at hE0 hwl hwd
  have hpq : p + q ≤ s.size := by omega
  have HC := fun (v : World) (hv : Rd RT b s (p + q) v) => colon_any hs hpq hv
  clear hz hnl
  rw [hq] at hcol
  rw [hcol] at hE0 HC hwd
  clear hcol hq
  have hzs : p + z ≤ s.size := by omega
  obtain ⟨Z, hZ⟩ : ∃ Z, p + z = Z := ⟨_, rfl⟩
  have hxl := ext_size s p Z (by omega) (by omega)
  obtain ⟨x, hx⟩ : ∃ x, s.extract p Z = x := ⟨_, rfl⟩
  have hx2 : s.extract p Z = x := hx
  rw [hx] at hxl
  rw [← hZ] at hx
  have hzq : z = q + 1 := hwd
  have hZq : p + q + 1 = Z := by omega
  simp only [if_true] at HC
  rw [hZq] at HC
  have hpZ : p ≤ Z := by omega
  have hZs : Z ≤ s.size := by omega
  have hpZi : (p : Int) ≤ (Z : Int) := by omega
  have hZsi : (Z : Int) ≤ (s.size : Int) := by omega
  have HN := Lib.hid HN
  have HC := Lib.hid HC
  have HX := Lib.hid hx
  clear hx hwl hwd
  simp only [if_true] at hE0
  by_cases h64 : 64 < z
  · have hE : tokR (s.data.toList.drop p) = .error (0, 2) := hE0.trans (if_pos h64)
    have hx64 : 64 < x.size := by omega
    clear hE0 h64 hxl hzq hZq
    rw [hE]
    have hbl := hrd.lt
    go_enter Tryz.func80, Tryz.ntmps80
    go_wp2_with fail
    have hr0 := hrd.alloc (Obj.cells #[.int .i64 0, .string ⟨#[]⟩, .int .i64 0, .int .i64 0] TT)
    have hm0 := (Mv.refl b w).alloc (Obj.cells #[.int .i64 0, .string ⟨#[]⟩, .int .i64 0, .int .i64 0] TT)
    have ht0 : Tk TT w.heap.size 0 ⟨#[]⟩ 0 0 (w.alloc (Obj.cells #[.int .i64 0, .string ⟨#[]⟩, .int .i64 0, .int .i64 0] TT)) := Tk.made w
    have hz0 : w.heap.size < (w.alloc (Obj.cells #[.int .i64 0, .string ⟨#[]⟩, .int .i64 0, .int .i64 0] TT)).heap.size := by simp
    obtain ⟨W0, hW⟩ : ∃ W0, w.alloc (Obj.cells #[.int .i64 0, .string ⟨#[]⟩, .int .i64 0, .int .i64 0] TT) = W0 := ⟨_, rfl⟩
    rw [hW] at hr0 hm0 ht0 hz0 ⊢
    clear hW
    refine (skip_any hs hat hr0).mono ?_; intro e w1 hsk
    rw [hk] at hsk
    obtain ⟨rfl, hr1, hm1⟩ := hsk
    rw [hp] at hr1
    have ht1 := ht0.mv hm1 (by omega)
    have hz1 : w.heap.size < w1.heap.size := Nat.lt_of_lt_of_le hz0 hm1.size
    have hm1 := hm0.trans hm1
    clear hr0 hm0 ht0 hz0
    have c1 := hr1.c1
    go_wp2_with fail
    have hS : Sn b s p w1.heap.size 0 (p : Int) ⟨#[]⟩ 0 w (w1.alloc (Obj.cells #[.int .i64 0, .string ⟨#[]⟩, .int .i64 0, .int .i64 (p : Int)] TT)) := ⟨hr1.alloc _, hm1.alloc _, ht1.alloc _, Tk.made w1, hz1⟩
    clear hr1 hm1 ht1 c1 hz1
    obtain ⟨W, hW⟩ : ∃ W, w1.alloc (Obj.cells #[.int .i64 0, .string ⟨#[]⟩, .int .i64 0, .int .i64 (p : Int)] TT) = W := ⟨_, rfl⟩
    rw [hW] at hS ⊢
    clear hW
    obtain ⟨K, hK⟩ : ∃ K, w1.heap.size = K := ⟨_, rfl⟩
    rw [hK] at hS ⊢
    clear hK
    have hKb : ¬ K = b := by have := hS.lt; omega
    have hbK : ¬ b = K := by omega
    have hKw : ¬ K = w.heap.size := by have := hS.lt; omega
    have hwK : ¬ w.heap.size = K := by omega
    have hwb : ¬ w.heap.size = b := by omega
    have hbw : ¬ b = w.heap.size := by omega
    refine (peekR0 hs hp2 hS.rd).mono ?_; rintro e w2 ⟨rfl, n1, hw⟩
    have hS : Sn b s p K 0 (p : Int) ⟨#[]⟩ 0 w w2 := by rw [hw]; exact hS.drewN _
    clear hw
    rw [hc]
    have c0 := hS.rd.c0
    have c1 := hS.rd.c1
    go_wp2_with fail
    go_quiet (fail)
    have hS := hS.drewN nq
    obtain ⟨W3, hW⟩ : ∃ W', w2.drewN nq = W' := ⟨_, rfl⟩
    rw [hW] at hS ⊢
    clear hW
    clear c0 c1
    go_wp2_with fail
    refine (letter_any c _).mono ?_; rintro e w' ⟨rfl, rfl⟩
    rw [hl]
    have g0 := hS.t1.c0
    have g1 := hS.t1.c1
    have g2 := hS.t1.c2
    have g3 := hS.t1.c3
    have gf := hS.t1.fz
    go_wp2_with fail
    have hS := hS.set0 hbl 1
    obtain ⟨W4, hW⟩ : ∃ W', W3.setCell ⟨K, 0, none⟩ (.int .i64 1) = W' := ⟨_, rfl⟩
    rw [hW] at hS ⊢
    clear hW
    clear g0 g1 g2 g3 gf
    refine (HN.out _ hS.rd).mono ?_; rintro e w5 ⟨rfl, hr5, hm5⟩
    have hS := hS.call hbl hr5 hm5
    clear hr5 hm5
    go_wp2_with fail
    refine (HC.out _ hS.rd).mono ?_; rintro e w6 ⟨rfl, hr6, hm6⟩
    have hS := hS.call hbl hr6 hm6
    clear hr6 hm6
    have g0 := hS.t1.c0
    have g1 := hS.t1.c1
    have g2 := hS.t1.c2
    have g3 := hS.t1.c3
    have gf := hS.t1.fz
    go_wp2_with fail
    have hS := hS.set0 hbl 2
    obtain ⟨W7, hW⟩ : ∃ W', w6.setCell ⟨K, 0, none⟩ (.int .i64 2) = W' := ⟨_, rfl⟩
    rw [hW] at hS ⊢
    clear hW
    clear g0 g1 g2 g3 gf
    have g0 := hS.t1.c0
    have g1 := hS.t1.c1
    have g2 := hS.t1.c2
    have g3 := hS.t1.c3
    have gf := hS.t1.fz
    have c0 := hS.rd.c0
    have c1 := hS.rd.c1
    go_wp2_with fail
    go_still_tail 13, (by kernel_rfl)
    change wpList _ _ _ _ _ (World.drew W7)
    have hS := hS.drew
    obtain ⟨W8, hW⟩ : ∃ W', (World.drew W7) = W' := ⟨_, rfl⟩
    rw [hW] at hS ⊢
    clear hW
    clear g0 g1 g2 g3 gf
    clear c0 c1
    go_wp2_with fail
    refine (word_long _ x _ hx64).mono ?_; rintro e w9 ⟨rfl, rfl⟩
    go_wp2
    exact ⟨rfl, rfl, hS.mv⟩
  · have hE : tokR (s.data.toList.drop p) = .ok (⟨2, (s.data.toList.drop p).take z, 0, 0⟩, z) := hE0.trans (if_neg h64)
    have hx64 : x.size ≤ 64 := by omega
    clear hE0 h64 hxl hzq hZq
    rw [hE]
    have hbl := hrd.lt
    go_enter Tryz.func80, Tryz.ntmps80
    go_wp2_with fail
    have hr0 := hrd.alloc (Obj.cells #[.int .i64 0, .string ⟨#[]⟩, .int .i64 0, .int .i64 0] TT)
    have hm0 := (Mv.refl b w).alloc (Obj.cells #[.int .i64 0, .string ⟨#[]⟩, .int .i64 0, .int .i64 0] TT)
    have ht0 : Tk TT w.heap.size 0 ⟨#[]⟩ 0 0 (w.alloc (Obj.cells #[.int .i64 0, .string ⟨#[]⟩, .int .i64 0, .int .i64 0] TT)) := Tk.made w
    have hz0 : w.heap.size < (w.alloc (Obj.cells #[.int .i64 0, .string ⟨#[]⟩, .int .i64 0, .int .i64 0] TT)).heap.size := by simp
    obtain ⟨W0, hW⟩ : ∃ W0, w.alloc (Obj.cells #[.int .i64 0, .string ⟨#[]⟩, .int .i64 0, .int .i64 0] TT) = W0 := ⟨_, rfl⟩
    rw [hW] at hr0 hm0 ht0 hz0 ⊢
    clear hW
    refine (skip_any hs hat hr0).mono ?_; intro e w1 hsk
    rw [hk] at hsk
    obtain ⟨rfl, hr1, hm1⟩ := hsk
    rw [hp] at hr1
    have ht1 := ht0.mv hm1 (by omega)
    have hz1 : w.heap.size < w1.heap.size := Nat.lt_of_lt_of_le hz0 hm1.size
    have hm1 := hm0.trans hm1
    clear hr0 hm0 ht0 hz0
    have c1 := hr1.c1
    go_wp2_with fail
    have hS : Sn b s p w1.heap.size 0 (p : Int) ⟨#[]⟩ 0 w (w1.alloc (Obj.cells #[.int .i64 0, .string ⟨#[]⟩, .int .i64 0, .int .i64 (p : Int)] TT)) := ⟨hr1.alloc _, hm1.alloc _, ht1.alloc _, Tk.made w1, hz1⟩
    clear hr1 hm1 ht1 c1 hz1
    obtain ⟨W, hW⟩ : ∃ W, w1.alloc (Obj.cells #[.int .i64 0, .string ⟨#[]⟩, .int .i64 0, .int .i64 (p : Int)] TT) = W := ⟨_, rfl⟩
    rw [hW] at hS ⊢
    clear hW
    obtain ⟨K, hK⟩ : ∃ K, w1.heap.size = K := ⟨_, rfl⟩
    rw [hK] at hS ⊢
    clear hK
    have hKb : ¬ K = b := by have := hS.lt; omega
    have hbK : ¬ b = K := by omega
    have hKw : ¬ K = w.heap.size := by have := hS.lt; omega
    have hwK : ¬ w.heap.size = K := by omega
    have hwb : ¬ w.heap.size = b := by omega
    have hbw : ¬ b = w.heap.size := by omega
    refine (peekR0 hs hp2 hS.rd).mono ?_; rintro e w2 ⟨rfl, n1, hw⟩
    have hS : Sn b s p K 0 (p : Int) ⟨#[]⟩ 0 w w2 := by rw [hw]; exact hS.drewN _
    clear hw
    rw [hc]
    have c0 := hS.rd.c0
    have c1 := hS.rd.c1
    go_wp2_with fail
    go_quiet (fail)
    have hS := hS.drewN nq
    obtain ⟨W3, hW⟩ : ∃ W', w2.drewN nq = W' := ⟨_, rfl⟩
    rw [hW] at hS ⊢
    clear hW
    clear c0 c1
    go_wp2_with fail
    refine (letter_any c _).mono ?_; rintro e w' ⟨rfl, rfl⟩
    rw [hl]
    have g0 := hS.t1.c0
    have g1 := hS.t1.c1
    have g2 := hS.t1.c2
    have g3 := hS.t1.c3
    have gf := hS.t1.fz
    go_wp2_with fail
    have hS := hS.set0 hbl 1
    obtain ⟨W4, hW⟩ : ∃ W', W3.setCell ⟨K, 0, none⟩ (.int .i64 1) = W' := ⟨_, rfl⟩
    rw [hW] at hS ⊢
    clear hW
    clear g0 g1 g2 g3 gf
    refine (HN.out _ hS.rd).mono ?_; rintro e w5 ⟨rfl, hr5, hm5⟩
    have hS := hS.call hbl hr5 hm5
    clear hr5 hm5
    go_wp2_with fail
    refine (HC.out _ hS.rd).mono ?_; rintro e w6 ⟨rfl, hr6, hm6⟩
    have hS := hS.call hbl hr6 hm6
    clear hr6 hm6
    have g0 := hS.t1.c0
    have g1 := hS.t1.c1
    have g2 := hS.t1.c2
    have g3 := hS.t1.c3
    have gf := hS.t1.fz
    go_wp2_with fail
    have hS := hS.set0 hbl 2
    obtain ⟨W7, hW⟩ : ∃ W', w6.setCell ⟨K, 0, none⟩ (.int .i64 2) = W' := ⟨_, rfl⟩
    rw [hW] at hS ⊢
    clear hW
    clear g0 g1 g2 g3 gf
    have g0 := hS.t1.c0
    have g1 := hS.t1.c1
    have g2 := hS.t1.c2
    have g3 := hS.t1.c3
    have gf := hS.t1.fz
    have c0 := hS.rd.c0
    have c1 := hS.rd.c1
    go_wp2_with fail
    go_still_tail 13, (by kernel_rfl)
    change wpList _ _ _ _ _ (World.drew W7)
    have hS := hS.drew
    obtain ⟨W8, hW⟩ : ∃ W', (World.drew W7) = W' := ⟨_, rfl⟩
    rw [hW] at hS ⊢
    clear hW
    clear g0 g1 g2 g3 gf
    clear c0 c1
    go_wp2_with fail
    refine (word_ok _ x _ hx64).mono ?_; rintro e w9 ⟨rfl, rfl⟩
    have e0 := hS.t0.c0
    have e1 := hS.t0.c1
    have e2 := hS.t0.c2
    have e3 := hS.t0.c3
    have ef := hS.t0.fz
    have g0 := hS.t1.c0
    have g1 := hS.t1.c1
    have g2 := hS.t1.c2
    have g3 := hS.t1.c3
    have gf := hS.t1.fz
    go_wp2_with fail
    have hS := hS.set1 hbl x
    refine bodyPost_ret (v := .agg #[.int .i64 2, .string x, .int .i64 0, .int .i64 (p : Int)]) (by simp [results, Tryz.results80, go_sem, e0, e1, e2, e3]) rfl ?_
    obtain ⟨f1, f2⟩ := fin4 hS.rd hS.mv hbl (.int .i64 2) (.string x) (.int .i64 0) (.int .i64 (p : Int))
    rw [← hZ] at f1
    exact ⟨ret1 (by rw [← HX.out, ext_word _ _ _ hzs]; rfl), f1, f2⟩
end Lx
end Go.Proofs.YthdigbkcffihkaaGreatDoor
