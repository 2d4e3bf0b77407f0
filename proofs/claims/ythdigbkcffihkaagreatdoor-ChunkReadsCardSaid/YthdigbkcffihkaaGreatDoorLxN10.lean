/- Package lex, the walk, next: an operator (wip/gen/gen_next.py prints this). -/
import Derived.Test.YthdigbkcffihkaaGreatDoorLxN0
import Derived.StillTailTactics
import Derived.RegionTactic
set_option linter.unusedVariables false
namespace Go.Proofs.YthdigbkcffihkaaGreatDoor
open Go.RowKit
namespace Lx
variable {b at_ k p : Nat} {s : ByteArray} {w : World}
theorem tok_restO {r : Bytes} {c : UInt8} (hc : hd r 0 = c) (hr : r ≠ []) (hl : letter c = false) (hdg : digit c = false) (h36 : c ≠ 36) (h39 : c ≠ 39) (h35 : c ≠ 35) (h58 : c ≠ 58) :
    tokR r = match sgl c with
    | some i => .ok (⟨8 + i, [], 0, 0⟩, 1)
    | none => if operL r = 0 then .error (0, 3) else .ok (⟨6, r.take (operL r), 0, 0⟩, operL r) := by
  cases r with
  | nil => exact absurd rfl hr
  | cons d t =>
    obtain rfl : d = c := hc
    show tokC d t = _
    unfold tokC
    rw [hl, hdg, if_neg h36, if_neg h39, if_neg h35, if_neg h58]
    rfl
set_option maxRecDepth 100000 in
set_option maxHeartbeats 1600000 in
theorem next_oper (hs : s.size ≤ 140737488351232) (hat : at_ ≤ s.size) (hrd : Rd RT b s at_ w) (hk : sk none 0 (s.data.toList.drop at_) = .ok k) (hp : at_ + k = p) (hp2 : p ≤ s.size) {c : UInt8} (hc : hd (s.data.toList.drop p) 0 = c) (hlt : p < s.size) (hl : letter c = false) (hdg : digit c = false) (h36 : c ≠ 36) (h39 : c ≠ 39) (h35 : c ≠ 35) (h58 : c ≠ 58) (hi : sgl c = none) :
    Calls Tryz.prog 80 #[.pointer (some ⟨b, 0, none⟩)] w (Toked b s p (tokR (s.data.toList.drop p)) w) := by
  have hge : decide (s.size ≤ p) = false := by simpa using hlt
  have hge2 : ¬ s.size ≤ p := by omega
  have hne : s.data.toList.drop p ≠ [] := by
    rw [drop_cons s p hlt]; simp
  have hE0 := tok_restO hc hne hl hdg h36 h39 h35 h58
  rw [hi] at hE0
  simp only at hE0
  have hix := (sgl_idx c).2 hi
  have HI : ∀ v : World, Calls Tryz.prog 81 #[.string ⟨#[94, 46, 59, 40, 41, 91, 93]⟩, .int .u8 (c.toNat : Int)] v fun e w' => e = .returned (.int .i64 (-1)) ∧ w' = v := fun v => by
    have := Tryz.strings_IndexByte ⟨#[94, 46, 59, 40, 41, 91, 93]⟩ (c.toNat : Int) v
    rw [u8_back, show (⟨#[94, 46, 59, 40, 41, 91, 93]⟩ : ByteArray).data.toList = singleL from rfl, hix] at this
    exact this
  have HI := Lib.hid HI
  have n36 : ((c.toNat : Int) == 36) = false := bne_u8 c 36 (by omega) h36
  have n39 : ((c.toNat : Int) == 39) = false := bne_u8 c 39 (by omega) h39
  have n35 : ((c.toNat : Int) == 35) = false := bne_u8 c 35 (by omega) h35
  have n58 : ((c.toNat : Int) == 58) = false := bne_u8 c 58 (by omega) h58
  have HO := fun (v : World) (hv : Rd RT b s p v) => oper_any hs hp2 hv
  have hkl := operL_le (s.data.toList.drop p)
  rw [dlen] at hkl
  obtain ⟨q, hqq⟩ : ∃ q, operL (s.data.toList.drop p) = q := ⟨_, rfl⟩
  rw [hqq] at HO hE0 hkl
  have hkl : p + q ≤ s.size := by omega
  clear hqq h36 h39 h35 h58 hix hi hne
  by_cases hq0 : q = 0
  · subst hq0
    have hE : tokR (s.data.toList.drop p) = .error (0, 3) := hE0
    have hy0 := ext_none s p
    rw [Nat.add_zero] at HO
    obtain ⟨x, hxx⟩ : ∃ x, s.extract p p = x := ⟨_, rfl⟩
    rw [hxx] at hy0 HO
    have hy1 : x.toList.isEmpty = true := by rw [hy0]; rfl
    have HO := Lib.hid HO
    clear hxx hE0
    rw [hE]
    have hbl := hrd.lt
    go_enter Tryz.func80, Tryz.ntmps80
    go_wp2_with fail
    have hr0 := hrd.alloc (Obj.cells #[.int .i64 0, .string ⟨#[]⟩, .int .i64 0, .int .i64 0] TT)
    have hm0 := (Mv.refl b w).alloc (Obj.cells #[.int .i64 0, .string ⟨#[]⟩, .int .i64 0, .int .i64 0] TT)
    have ht0 : Tk TT w.heap.size 0 ⟨#[]⟩ 0 0 (w.alloc (Obj.cells #[.int .i64 0, .string ⟨#[]⟩, .int .i64 0, .int .i64 0] TT)) := Tk.made w
    have hz0 : w.heap.size < (w.alloc (Obj.cells #[.int .i64 0, .string ⟨#[]⟩, .int .i64 0, .int .i64 0] TT)).heap.size := by simp
    obtain ⟨W0, hW⟩ : ∃ W0, w.alloc (Obj.cells #[.int .i64 0, .string ⟨#[]⟩, .int .i64 0, .int .i64 0] TT) = W0 := ⟨_, rfl⟩
    rw [hW] at hr0 hm0 ht0 hz0 ⊢
    clear hW
    refine (skip_any hs hat hr0).mono ?_; intro e w1 hsk
    rw [hk] at hsk
    obtain ⟨rfl, hr1, hm1⟩ := hsk
    rw [hp] at hr1
    have ht1 := ht0.mv hm1 (by omega)
    have hz1 : w.heap.size < w1.heap.size := Nat.lt_of_lt_of_le hz0 hm1.size
    have hm1 := hm0.trans hm1
    clear hr0 hm0 ht0 hz0
    have c1 := hr1.c1
    go_wp2_with fail
    have hS : Sn b s p w1.heap.size 0 (p : Int) ⟨#[]⟩ 0 w (w1.alloc (Obj.cells #[.int .i64 0, .string ⟨#[]⟩, .int .i64 0, .int .i64 (p : Int)] TT)) := ⟨hr1.alloc _, hm1.alloc _, ht1.alloc _, Tk.made w1, hz1⟩
    clear hr1 hm1 ht1 c1 hz1
    obtain ⟨W, hW⟩ : ∃ W, w1.alloc (Obj.cells #[.int .i64 0, .string ⟨#[]⟩, .int .i64 0, .int .i64 (p : Int)] TT) = W := ⟨_, rfl⟩
    rw [hW] at hS ⊢
    clear hW
    obtain ⟨K, hK⟩ : ∃ K, w1.heap.size = K := ⟨_, rfl⟩
    rw [hK] at hS ⊢
    clear hK
    have hKb : ¬ K = b := by have := hS.lt; omega
    have hbK : ¬ b = K := by omega
    have hKw : ¬ K = w.heap.size := by have := hS.lt; omega
    have hwK : ¬ w.heap.size = K := by omega
    have hwb : ¬ w.heap.size = b := by omega
    have hbw : ¬ b = w.heap.size := by omega
    refine (peekR0 hs hp2 hS.rd).mono ?_; rintro e w2 ⟨rfl, n1, hw⟩
    have hS : Sn b s p K 0 (p : Int) ⟨#[]⟩ 0 w w2 := by rw [hw]; exact hS.drewN _
    clear hw
    rw [hc]
    have c0 := hS.rd.c0
    have c1 := hS.rd.c1
    go_wp2_with fail
    go_quiet (fail)
    have hS := hS.drewN nq
    obtain ⟨W3, hW⟩ : ∃ W', w2.drewN nq = W' := ⟨_, rfl⟩
    rw [hW] at hS ⊢
    clear hW
    clear c0 c1
    go_wp2_with fail
    refine (letter_any c _).mono ?_; rintro e w' ⟨rfl, rfl⟩
    rw [hl]
    go_wp2_with fail
    refine (digit_any c _).mono ?_; rintro e w' ⟨rfl, rfl⟩
    rw [hdg]
    go_wp2_with fail
    refine (HI.out _).mono ?_; rintro e w4 ⟨rfl, rfl⟩
    go_wp2_with fail
    refine (HO.out _ hS.rd).mono ?_; rintro e w5 ⟨rfl, hr5, hm5⟩
    have hS := hS.call hbl hr5 hm5
    clear hr5 hm5
    have g0 := hS.t1.c0
    have g1 := hS.t1.c1
    have g2 := hS.t1.c2
    have g3 := hS.t1.c3
    have gf := hS.t1.fz
    go_wp2_with fail
    have hS := (hS.set0 hbl 6).set1 hbl x
    refine (stop_any (p : Int) 3 _).mono ?_; rintro e w' ⟨rfl, rfl⟩
    go_wp2
    exact ⟨rfl, rfl, hS.mv⟩
  · have hE : tokR (s.data.toList.drop p) = .ok (⟨6, (s.data.toList.drop p).take q, 0, 0⟩, q) := hE0.trans (if_neg hq0)
    have hy0 := ext_some s p (p + q) (by omega) hkl
    obtain ⟨x, hx⟩ : ∃ x, s.extract p (p + q) = x := ⟨_, rfl⟩
    rw [hx] at hy0 HO
    have hy1 : x.toList.isEmpty = false := by cases hl : x.toList with | nil => exact absurd hl hy0 | cons _ _ => rfl
    have HO := Lib.hid HO
    have HX := Lib.hid hx
    clear hx hE0
    rw [hE]
    have hbl := hrd.lt
    go_enter Tryz.func80, Tryz.ntmps80
    go_wp2_with fail
    have hr0 := hrd.alloc (Obj.cells #[.int .i64 0, .string ⟨#[]⟩, .int .i64 0, .int .i64 0] TT)
    have hm0 := (Mv.refl b w).alloc (Obj.cells #[.int .i64 0, .string ⟨#[]⟩, .int .i64 0, .int .i64 0] TT)
    have ht0 : Tk TT w.heap.size 0 ⟨#[]⟩ 0 0 (w.alloc (Obj.cells #[.int .i64 0, .string ⟨#[]⟩, .int .i64 0, .int .i64 0] TT)) := Tk.made w
    have hz0 : w.heap.size < (w.alloc (Obj.cells #[.int .i64 0, .string ⟨#[]⟩, .int .i64 0, .int .i64 0] TT)).heap.size := by simp
    obtain ⟨W0, hW⟩ : ∃ W0, w.alloc (Obj.cells #[.int .i64 0, .string ⟨#[]⟩, .int .i64 0, .int .i64 0] TT) = W0 := ⟨_, rfl⟩
    rw [hW] at hr0 hm0 ht0 hz0 ⊢
    clear hW
    refine (skip_any hs hat hr0).mono ?_; intro e w1 hsk
    rw [hk] at hsk
    obtain ⟨rfl, hr1, hm1⟩ := hsk
    rw [hp] at hr1
    have ht1 := ht0.mv hm1 (by omega)
    have hz1 : w.heap.size < w1.heap.size := Nat.lt_of_lt_of_le hz0 hm1.size
    have hm1 := hm0.trans hm1
    clear hr0 hm0 ht0 hz0
    have c1 := hr1.c1
    go_wp2_with fail
    have hS : Sn b s p w1.heap.size 0 (p : Int) ⟨#[]⟩ 0 w (w1.alloc (Obj.cells #[.int .i64 0, .string ⟨#[]⟩, .int .i64 0, .int .i64 (p : Int)] TT)) := ⟨hr1.alloc _, hm1.alloc _, ht1.alloc _, Tk.made w1, hz1⟩
    clear hr1 hm1 ht1 c1 hz1
    obtain ⟨W, hW⟩ : ∃ W, w1.alloc (Obj.cells #[.int .i64 0, .string ⟨#[]⟩, .int .i64 0, .int .i64 (p : Int)] TT) = W := ⟨_, rfl⟩
    rw [hW] at hS ⊢
    clear hW
    obtain ⟨K, hK⟩ : ∃ K, w1.heap.size = K := ⟨_, rfl⟩
    rw [hK] at hS ⊢
    clear hK
    have hKb : ¬ K = b := by have := hS.lt; omega
    have hbK : ¬ b = K := by omega
    have hKw : ¬ K = w.heap.size := by have := hS.lt; omega
    have hwK : ¬ w.heap.size = K := by omega
    have hwb : ¬ w.heap.size = b := by omega
    have hbw : ¬ b = w.heap.size := by omega
    refine (peekR0 hs hp2 hS.rd).mono ?_; rintro e w2 ⟨rfl, n1, hw⟩
    have hS : Sn b s p K 0 (p : Int) ⟨#[]⟩ 0 w w2 := by rw [hw]; exact hS.drewN _
    clear hw
    rw [hc]
    have c0 := hS.rd.c0
    have c1 := hS.rd.c1
    go_wp2_with fail
    go_quiet (fail)
    have hS := hS.drewN nq
    obtain ⟨W3, hW⟩ : ∃ W', w2.drewN nq = W' := ⟨_, rfl⟩
    rw [hW] at hS ⊢
    clear hW
    clear c0 c1
    go_wp2_with fail
    refine (letter_any c _).mono ?_; rintro e w' ⟨rfl, rfl⟩
    rw [hl]
    go_wp2_with fail
    refine (digit_any c _).mono ?_; rintro e w' ⟨rfl, rfl⟩
    rw [hdg]
    go_wp2_with fail
    refine (HI.out _).mono ?_; rintro e w4 ⟨rfl, rfl⟩
    go_wp2_with fail
    refine (HO.out _ hS.rd).mono ?_; rintro e w5 ⟨rfl, hr5, hm5⟩
    have hS := hS.call hbl hr5 hm5
    clear hr5 hm5
    have g0 := hS.t1.c0
    have g1 := hS.t1.c1
    have g2 := hS.t1.c2
    have g3 := hS.t1.c3
    have gf := hS.t1.fz
    have e0 := hS.t0.c0
    have e1 := hS.t0.c1
    have e2 := hS.t0.c2
    have e3 := hS.t0.c3
    have ef := hS.t0.fz
    go_wp2_with fail
    have hS := (hS.set0 hbl 6).set1 hbl x
    refine bodyPost_ret (v := .agg #[.int .i64 6, .string x, .int .i64 0, .int .i64 (p : Int)]) (by simp [results, Tryz.results80, go_sem, e0, e1, e2, e3]) rfl ?_
    obtain ⟨f1, f2⟩ := fin4 hS.rd hS.mv hbl (.int .i64 6) (.string x) (.int .i64 0) (.int .i64 (p : Int))
    exact ⟨ret1 (by rw [← HX.out, ext_word _ _ _ hkl]; rfl), f1, f2⟩
end Lx
end Go.Proofs.YthdigbkcffihkaaGreatDoor
