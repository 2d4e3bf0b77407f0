/- Package lex, the walk, next: what its walks lean on (wip/gen/gen_next.py prints this). · Package lex, the walk, next: the end (wip/gen/gen_next.py prints this). · Package lex, the walk, next: a name (wip/gen/gen_next.py prints this). · Package lex, the walk, next: a keyword (wip/gen/gen_next.py prints this). · Package lex, the walk, next: digits (wip/gen/gen_next.py prints this). · Package lex, the walk, next: a byte behind $ (wip/gen/gen_next.py prints this). · Package lex, the walk, next: a text (wip/gen/gen_next.py prints this). · Package lex, the walk, next: a symbol (wip/gen/gen_next.py prints this). · Package lex, the walk, next: a colon (wip/gen/gen_next.py prints this). · Package lex, the walk, next: a mark (wip/gen/gen_next.py prints this). · Package lex, the walk, next: an operator (wip/gen/gen_next.py prints this). · Package lex, the walk, 14: next whole. · Package lex, the walk, 16: Next. -/
import Derived.Test.YtfbhokdcnjekiaaGreatDoorLxWb
import Derived.StillTailTactics
import Derived.RegionTactic
set_option linter.unusedVariables false
namespace Go.Proofs.YtfbhokdcnjekiaaGreatDoor
open Go.RowKit
namespace Lx
/-- A reader; an empty token in the first new block; a token in a later one. -/
structure Sn (b : Nat) (s : ByteArray) (z k : Nat) (kd a : Int) (x : ByteArray) (n : Int) (w W : World) : Prop where
 rd : Rd RT b s z W
 mv : Mv b w W
 t0 : Tk TT w.heap.size 0 ⟨#[]⟩ 0 0 W
 t1 : Tk TT k kd x n a W
 lt : w.heap.size < k
section
variable {b z z' k : Nat} {s x : ByteArray} {kd a n : Int} {w W W' : World}
theorem Sn.call (h : Sn b s z k kd a x n w W) (hb : b < w.heap.size) (hr : Rd RT b s z' W') (hm : Mv b W W') : Sn b s z' k kd a x n w W' :=
 ⟨hr, h.mv.trans hm, h.t0.mv hm (by omega), h.t1.mv hm (by have := h.lt; omega), h.lt⟩
theorem Sn.drewN (h : Sn b s z k kd a x n w W) (m : Nat) : Sn b s z k kd a x n w (W.drewN m) := ⟨h.rd.drewN m, h.mv.drewN m, h.t0.drewN m, h.t1.drewN m, h.lt⟩
theorem Sn.drew (h : Sn b s z k kd a x n w W) : Sn b s z k kd a x n w W.drew := ⟨h.rd, h.mv.drew, h.t0, h.t1, h.lt⟩
theorem Sn.set0 (h : Sn b s z k kd a x n w W) (hb : b < w.heap.size) (y : Int) : Sn b s z k y a x n w (W.setCell ⟨k, 0, none⟩ (.int .i64 y)) :=
 ⟨h.rd.far (show b ≠ k by have := h.lt; omega) _, h.mv.new (show w.heap.size ≤ k by have := h.lt; omega) _, h.t0.far (show w.heap.size ≠ k by have := h.lt; omega) _, h.t1.set0 y, h.lt⟩
theorem Sn.set1 (h : Sn b s z k kd a x n w W) (hb : b < w.heap.size) (y : ByteArray) : Sn b s z k kd a y n w (W.setCell ⟨k, 1, none⟩ (.string y)) :=
 ⟨h.rd.far (show b ≠ k by have := h.lt; omega) _, h.mv.new (show w.heap.size ≤ k by have := h.lt; omega) _, h.t0.far (show w.heap.size ≠ k by have := h.lt; omega) _, h.t1.set1 y, h.lt⟩
theorem Sn.set2 (h : Sn b s z k kd a x n w W) (hb : b < w.heap.size) (y : Int) : Sn b s z k kd a x y w (W.setCell ⟨k, 2, none⟩ (.int .i64 y)) :=
 ⟨h.rd.far (show b ≠ k by have := h.lt; omega) _, h.mv.new (show w.heap.size ≤ k by have := h.lt; omega) _, h.t0.far (show w.heap.size ≠ k by have := h.lt; omega) _, h.t1.set2 y, h.lt⟩
theorem Sn.move (h : Sn b s z k kd a x n w W) (hb : b < w.heap.size) (y : Nat) : Sn b s y k kd a x n w (W.setCell ⟨b, 1, none⟩ (.int .i64 (y : Int))) :=
 ⟨h.rd.set_ y, h.mv.set_ 1 _, h.t0.far (show w.heap.size ≠ b by omega) _, h.t1.far (show k ≠ b by have := h.lt; omega) _, h.lt⟩
end
variable {b at_ k p : Nat} {s : ByteArray} {w : World}
end Lx
end Go.Proofs.YtfbhokdcnjekiaaGreatDoor
namespace Go.Proofs.YtfbhokdcnjekiaaGreatDoor
open Go.RowKit
namespace Lx
variable {b at_ k p : Nat} {s : ByteArray} {w : World}
end Lx
end Go.Proofs.YtfbhokdcnjekiaaGreatDoor
namespace Go.Proofs.YtfbhokdcnjekiaaGreatDoor
open Go.RowKit
namespace Lx
variable {b at_ k p : Nat} {s : ByteArray} {w : World}
end Lx
end Go.Proofs.YtfbhokdcnjekiaaGreatDoor
namespace Go.Proofs.YtfbhokdcnjekiaaGreatDoor
open Go.RowKit
namespace Lx
variable {b at_ k p : Nat} {s : ByteArray} {w : World}
end Lx
end Go.Proofs.YtfbhokdcnjekiaaGreatDoor
namespace Go.Proofs.YtfbhokdcnjekiaaGreatDoor
open Go.RowKit
namespace Lx
variable {b at_ k p : Nat} {s : ByteArray} {w : World}
end Lx
end Go.Proofs.YtfbhokdcnjekiaaGreatDoor
namespace Go.Proofs.YtfbhokdcnjekiaaGreatDoor
open Go.RowKit
namespace Lx
variable {b at_ k p : Nat} {s : ByteArray} {w : World}
end Lx
end Go.Proofs.YtfbhokdcnjekiaaGreatDoor
namespace Go.Proofs.YtfbhokdcnjekiaaGreatDoor
open Go.RowKit
namespace Lx
variable {b at_ k p : Nat} {s : ByteArray} {w : World}
set_option maxRecDepth 100000 in
set_option maxHeartbeats 1600000 in
theorem next_text (hs : s.size ≤ 140737488351232) (hat : at_ ≤ s.size) (hrd : Rd RT b s at_ w) (hk : sk none 0 (s.data.toList.drop at_) = .ok k) (hp : at_ + k = p) (hp2 : p ≤ s.size) {c : UInt8} (hc : hd (s.data.toList.drop p) 0 = c) (hcv : c = 39) :
  Calls Tryz.prog 162 #[.pointer (some ⟨b, 0, none⟩)] w (Toked b s p (tokR (s.data.toList.drop p)) w) := by
 have hl : letter c = false := by rw [hcv]; rfl
 have hdg : digit c = false := by rw [hcv]; rfl
 have hc0 : c ≠ 0 := by rw [hcv]; decide
 have hlt : p < s.size := hd_in hc hc0
 have hge : decide (s.size ≤ p) = false := by simpa using hlt
 have hge2 : ¬ s.size ≤ p := by omega
 have hr : s.data.toList.drop p = c :: s.data.toList.drop (p + 1) := by rw [drop_cons s p hlt, show s[p] = c from (hd_drop s p 0 hlt).symm.trans hc]
 have hE0 : tokR (s.data.toList.drop p) = match txt (s.data.toList.drop (p + 1)) with
   | none => .error (0, 4)
   | some (w, n) => if 4096 < w.length then .error (0, 2) else .ok (⟨4, w, 0, 0⟩, n + 1) := by rw [hr, hcv]; rfl
 obtain ⟨x, hx⟩ : ∃ x, txt (s.data.toList.drop (p + 1)) = x := ⟨_, rfl⟩
 rw [hx] at hE0
 have HX := Lib.hid hx
 have n36 : ((c.toNat : Int) == 36) = false := by rw [hcv]; rfl
 have n39 : ((c.toNat : Int) == 39) = true := by rw [hcv]; rfl
 clear hcv hr hx
 cases x with
 | none =>
  have hE : tokR (s.data.toList.drop p) = .error (0, 4) := hE0
  clear hE0
  rw [hE]
  have hbl := hrd.lt
  go_enter Tryz.func162, Tryz.ntmps162
  go_wp2_with fail
  have hr0 := hrd.alloc (Obj.cells #[.int .i64 0, .string ⟨#[]⟩, .int .i64 0, .int .i64 0] TT)
  have hm0 := (Mv.refl b w).alloc (Obj.cells #[.int .i64 0, .string ⟨#[]⟩, .int .i64 0, .int .i64 0] TT)
  have ht0 : Tk TT w.heap.size 0 ⟨#[]⟩ 0 0 (w.alloc (Obj.cells #[.int .i64 0, .string ⟨#[]⟩, .int .i64 0, .int .i64 0] TT)) := Tk.made w
  have hz0 : w.heap.size < (w.alloc (Obj.cells #[.int .i64 0, .string ⟨#[]⟩, .int .i64 0, .int .i64 0] TT)).heap.size := by simp
  obtain ⟨W0, hW⟩ : ∃ W0, w.alloc (Obj.cells #[.int .i64 0, .string ⟨#[]⟩, .int .i64 0, .int .i64 0] TT) = W0 := ⟨_, rfl⟩
  rw [hW] at hr0 hm0 ht0 hz0 ⊢
  clear hW
  refine (skip_any hs hat hr0).mono ?_; intro e w1 hsk
  rw [hk] at hsk
  obtain ⟨rfl, hr1, hm1⟩ := hsk
  rw [hp] at hr1
  have ht1 := ht0.mv hm1 (by omega)
  have hz1 : w.heap.size < w1.heap.size := Nat.lt_of_lt_of_le hz0 hm1.size
  have hm1 := hm0.trans hm1
  clear hr0 hm0 ht0 hz0
  have c1 := hr1.c1
  go_wp2_with fail
  have hS : Sn b s p w1.heap.size 0 (p : Int) ⟨#[]⟩ 0 w (w1.alloc (Obj.cells #[.int .i64 0, .string ⟨#[]⟩, .int .i64 0, .int .i64 (p : Int)] TT)) := ⟨hr1.alloc _, hm1.alloc _, ht1.alloc _, Tk.made w1, hz1⟩
  clear hr1 hm1 ht1 c1 hz1
  obtain ⟨W, hW⟩ : ∃ W, w1.alloc (Obj.cells #[.int .i64 0, .string ⟨#[]⟩, .int .i64 0, .int .i64 (p : Int)] TT) = W := ⟨_, rfl⟩
  rw [hW] at hS ⊢
  clear hW
  obtain ⟨K, hK⟩ : ∃ K, w1.heap.size = K := ⟨_, rfl⟩
  rw [hK] at hS ⊢
  clear hK
  have hKb : ¬ K = b := by have := hS.lt; omega
  have hbK : ¬ b = K := by omega
  have hKw : ¬ K = w.heap.size := by have := hS.lt; omega
  have hwK : ¬ w.heap.size = K := by omega
  have hwb : ¬ w.heap.size = b := by omega
  have hbw : ¬ b = w.heap.size := by omega
  refine (peekR0 hs hp2 hS.rd).mono ?_; rintro e w2 ⟨rfl, n1, hw⟩
  have hS : Sn b s p K 0 (p : Int) ⟨#[]⟩ 0 w w2 := by rw [hw]; exact hS.drewN _
  clear hw
  rw [hc]
  have c0 := hS.rd.c0
  have c1 := hS.rd.c1
  go_wp2_with fail
  go_quiet (fail)
  have hS := hS.drewN nq
  obtain ⟨W3, hW⟩ : ∃ W', w2.drewN nq = W' := ⟨_, rfl⟩
  rw [hW] at hS ⊢
  clear hW
  clear c0 c1
  go_wp2_with fail
  refine (letter_any c _).mono ?_; rintro e w' ⟨rfl, rfl⟩
  rw [hl]
  go_wp2_with fail
  refine (digit_any c _).mono ?_; rintro e w' ⟨rfl, rfl⟩
  rw [hdg]
  have g0 := hS.t1.c0
  have g1 := hS.t1.c1
  have g2 := hS.t1.c2
  have g3 := hS.t1.c3
  have gf := hS.t1.fz
  go_wp2_with fail
  clear g0 g1 g2 g3 gf
  refine (text_any (p : Int) hs hlt hS.rd).mono ?_; intro e w5 ht
  rw [HX.out] at ht
  obtain ⟨rfl, hm⟩ := ht
  go_wp2
  exact ⟨rfl, rfl, hS.mv.trans hm⟩
 | some y =>
  obtain ⟨l, z⟩ := y
  simp only at hE0
  by_cases hbig : 4096 < l.length
  · have hE : tokR (s.data.toList.drop p) = .error (0, 2) := hE0.trans (if_pos hbig)
    clear hE0
    rw [hE]
    have hbl := hrd.lt
    go_enter Tryz.func162, Tryz.ntmps162
    go_wp2_with fail
    have hr0 := hrd.alloc (Obj.cells #[.int .i64 0, .string ⟨#[]⟩, .int .i64 0, .int .i64 0] TT)
    have hm0 := (Mv.refl b w).alloc (Obj.cells #[.int .i64 0, .string ⟨#[]⟩, .int .i64 0, .int .i64 0] TT)
    have ht0 : Tk TT w.heap.size 0 ⟨#[]⟩ 0 0 (w.alloc (Obj.cells #[.int .i64 0, .string ⟨#[]⟩, .int .i64 0, .int .i64 0] TT)) := Tk.made w
    have hz0 : w.heap.size < (w.alloc (Obj.cells #[.int .i64 0, .string ⟨#[]⟩, .int .i64 0, .int .i64 0] TT)).heap.size := by simp
    obtain ⟨W0, hW⟩ : ∃ W0, w.alloc (Obj.cells #[.int .i64 0, .string ⟨#[]⟩, .int .i64 0, .int .i64 0] TT) = W0 := ⟨_, rfl⟩
    rw [hW] at hr0 hm0 ht0 hz0 ⊢
    clear hW
    refine (skip_any hs hat hr0).mono ?_; intro e w1 hsk
    rw [hk] at hsk
    obtain ⟨rfl, hr1, hm1⟩ := hsk
    rw [hp] at hr1
    have ht1 := ht0.mv hm1 (by omega)
    have hz1 : w.heap.size < w1.heap.size := Nat.lt_of_lt_of_le hz0 hm1.size
    have hm1 := hm0.trans hm1
    clear hr0 hm0 ht0 hz0
    have c1 := hr1.c1
    go_wp2_with fail
    have hS : Sn b s p w1.heap.size 0 (p : Int) ⟨#[]⟩ 0 w (w1.alloc (Obj.cells #[.int .i64 0, .string ⟨#[]⟩, .int .i64 0, .int .i64 (p : Int)] TT)) := ⟨hr1.alloc _, hm1.alloc _, ht1.alloc _, Tk.made w1, hz1⟩
    clear hr1 hm1 ht1 c1 hz1
    obtain ⟨W, hW⟩ : ∃ W, w1.alloc (Obj.cells #[.int .i64 0, .string ⟨#[]⟩, .int .i64 0, .int .i64 (p : Int)] TT) = W := ⟨_, rfl⟩
    rw [hW] at hS ⊢
    clear hW
    obtain ⟨K, hK⟩ : ∃ K, w1.heap.size = K := ⟨_, rfl⟩
    rw [hK] at hS ⊢
    clear hK
    have hKb : ¬ K = b := by have := hS.lt; omega
    have hbK : ¬ b = K := by omega
    have hKw : ¬ K = w.heap.size := by have := hS.lt; omega
    have hwK : ¬ w.heap.size = K := by omega
    have hwb : ¬ w.heap.size = b := by omega
    have hbw : ¬ b = w.heap.size := by omega
    refine (peekR0 hs hp2 hS.rd).mono ?_; rintro e w2 ⟨rfl, n1, hw⟩
    have hS : Sn b s p K 0 (p : Int) ⟨#[]⟩ 0 w w2 := by rw [hw]; exact hS.drewN _
    clear hw
    rw [hc]
    have c0 := hS.rd.c0
    have c1 := hS.rd.c1
    go_wp2_with fail
    go_quiet (fail)
    have hS := hS.drewN nq
    obtain ⟨W3, hW⟩ : ∃ W', w2.drewN nq = W' := ⟨_, rfl⟩
    rw [hW] at hS ⊢
    clear hW
    clear c0 c1
    go_wp2_with fail
    refine (letter_any c _).mono ?_; rintro e w' ⟨rfl, rfl⟩
    rw [hl]
    go_wp2_with fail
    refine (digit_any c _).mono ?_; rintro e w' ⟨rfl, rfl⟩
    rw [hdg]
    have g0 := hS.t1.c0
    have g1 := hS.t1.c1
    have g2 := hS.t1.c2
    have g3 := hS.t1.c3
    have gf := hS.t1.fz
    go_wp2_with fail
    clear g0 g1 g2 g3 gf
    refine (text_any (p : Int) hs hlt hS.rd).mono ?_; intro e w5 ht
    rw [HX.out] at ht
    have ht : Fell b (p : Int) 2 W3 e w5 := by
     have h2 : (if 4096 < l.length then Fell b (p : Int) 2 W3 e w5 else Turn RT b s (z + (p + 1)) (.string ⟨l.toArray⟩) W3 e w5) := ht
     rwa [if_pos hbig] at h2
    obtain ⟨rfl, hm⟩ := ht
    go_wp2
    exact ⟨rfl, rfl, hS.mv.trans hm⟩
  · have hE : tokR (s.data.toList.drop p) = .ok (⟨4, l, 0, 0⟩, z + 1) := hE0.trans (if_neg hbig)
    clear hE0
    rw [hE]
    have hbl := hrd.lt
    go_enter Tryz.func162, Tryz.ntmps162
    go_wp2_with fail
    have hr0 := hrd.alloc (Obj.cells #[.int .i64 0, .string ⟨#[]⟩, .int .i64 0, .int .i64 0] TT)
    have hm0 := (Mv.refl b w).alloc (Obj.cells #[.int .i64 0, .string ⟨#[]⟩, .int .i64 0, .int .i64 0] TT)
    have ht0 : Tk TT w.heap.size 0 ⟨#[]⟩ 0 0 (w.alloc (Obj.cells #[.int .i64 0, .string ⟨#[]⟩, .int .i64 0, .int .i64 0] TT)) := Tk.made w
    have hz0 : w.heap.size < (w.alloc (Obj.cells #[.int .i64 0, .string ⟨#[]⟩, .int .i64 0, .int .i64 0] TT)).heap.size := by simp
    obtain ⟨W0, hW⟩ : ∃ W0, w.alloc (Obj.cells #[.int .i64 0, .string ⟨#[]⟩, .int .i64 0, .int .i64 0] TT) = W0 := ⟨_, rfl⟩
    rw [hW] at hr0 hm0 ht0 hz0 ⊢
    clear hW
    refine (skip_any hs hat hr0).mono ?_; intro e w1 hsk
    rw [hk] at hsk
    obtain ⟨rfl, hr1, hm1⟩ := hsk
    rw [hp] at hr1
    have ht1 := ht0.mv hm1 (by omega)
    have hz1 : w.heap.size < w1.heap.size := Nat.lt_of_lt_of_le hz0 hm1.size
    have hm1 := hm0.trans hm1
    clear hr0 hm0 ht0 hz0
    have c1 := hr1.c1
    go_wp2_with fail
    have hS : Sn b s p w1.heap.size 0 (p : Int) ⟨#[]⟩ 0 w (w1.alloc (Obj.cells #[.int .i64 0, .string ⟨#[]⟩, .int .i64 0, .int .i64 (p : Int)] TT)) := ⟨hr1.alloc _, hm1.alloc _, ht1.alloc _, Tk.made w1, hz1⟩
    clear hr1 hm1 ht1 c1 hz1
    obtain ⟨W, hW⟩ : ∃ W, w1.alloc (Obj.cells #[.int .i64 0, .string ⟨#[]⟩, .int .i64 0, .int .i64 (p : Int)] TT) = W := ⟨_, rfl⟩
    rw [hW] at hS ⊢
    clear hW
    obtain ⟨K, hK⟩ : ∃ K, w1.heap.size = K := ⟨_, rfl⟩
    rw [hK] at hS ⊢
    clear hK
    have hKb : ¬ K = b := by have := hS.lt; omega
    have hbK : ¬ b = K := by omega
    have hKw : ¬ K = w.heap.size := by have := hS.lt; omega
    have hwK : ¬ w.heap.size = K := by omega
    have hwb : ¬ w.heap.size = b := by omega
    have hbw : ¬ b = w.heap.size := by omega
    refine (peekR0 hs hp2 hS.rd).mono ?_; rintro e w2 ⟨rfl, n1, hw⟩
    have hS : Sn b s p K 0 (p : Int) ⟨#[]⟩ 0 w w2 := by rw [hw]; exact hS.drewN _
    clear hw
    rw [hc]
    have c0 := hS.rd.c0
    have c1 := hS.rd.c1
    go_wp2_with fail
    go_quiet (fail)
    have hS := hS.drewN nq
    obtain ⟨W3, hW⟩ : ∃ W', w2.drewN nq = W' := ⟨_, rfl⟩
    rw [hW] at hS ⊢
    clear hW
    clear c0 c1
    go_wp2_with fail
    refine (letter_any c _).mono ?_; rintro e w' ⟨rfl, rfl⟩
    rw [hl]
    go_wp2_with fail
    refine (digit_any c _).mono ?_; rintro e w' ⟨rfl, rfl⟩
    rw [hdg]
    have g0 := hS.t1.c0
    have g1 := hS.t1.c1
    have g2 := hS.t1.c2
    have g3 := hS.t1.c3
    have gf := hS.t1.fz
    go_wp2_with fail
    clear g0 g1 g2 g3 gf
    refine (text_any (p : Int) hs hlt hS.rd).mono ?_; intro e w5 ht
    rw [HX.out] at ht
    have ht : Turn RT b s (z + (p + 1)) (.string ⟨l.toArray⟩) W3 e w5 := by
     have h2 : (if 4096 < l.length then Fell b (p : Int) 2 W3 e w5 else Turn RT b s (z + (p + 1)) (.string ⟨l.toArray⟩) W3 e w5) := ht
     rwa [if_neg hbig] at h2
    obtain ⟨y, hy⟩ : ∃ y : ByteArray, (⟨l.toArray⟩ : ByteArray) = y := ⟨_, rfl⟩
    rw [hy] at ht
    obtain ⟨rfl, hr5, hm5⟩ := ht
    have hS := hS.call hbl hr5 hm5
    clear hr5 hm5
    have e0 := hS.t0.c0
    have e1 := hS.t0.c1
    have e2 := hS.t0.c2
    have e3 := hS.t0.c3
    have ef := hS.t0.fz
    have g0 := hS.t1.c0
    have g1 := hS.t1.c1
    have g2 := hS.t1.c2
    have g3 := hS.t1.c3
    have gf := hS.t1.fz
    go_wp2_with fail
    have hS := (hS.set0 hbl 4).set1 hbl y
    refine bodyPost_ret (v := .agg #[.int .i64 4, .string y, .int .i64 0, .int .i64 (p : Int)]) (by simp [results, Tryz.results162, go_sem, e0, e1, e2, e3]) rfl ?_
    obtain ⟨f1, f2⟩ := fin4 hS.rd hS.mv hbl (.int .i64 4) (.string y) (.int .i64 0) (.int .i64 (p : Int))
    exact ⟨ret1 (by rw [← hy]; rfl), by rw [show p + (z + 1) = z + (p + 1) by omega]; exact f1, f2⟩
end Lx
end Go.Proofs.YtfbhokdcnjekiaaGreatDoor
namespace Go.Proofs.YtfbhokdcnjekiaaGreatDoor
open Go.RowKit
namespace Lx
variable {b at_ k p : Nat} {s : ByteArray} {w : World}
set_option maxRecDepth 100000 in
set_option maxHeartbeats 1600000 in
theorem next_hash (hs : s.size ≤ 140737488351232) (hat : at_ ≤ s.size) (hrd : Rd RT b s at_ w) (hk : sk none 0 (s.data.toList.drop at_) = .ok k) (hp : at_ + k = p) (hp2 : p ≤ s.size) {c : UInt8} (hc : hd (s.data.toList.drop p) 0 = c) (hcv : c = 35) :
  Calls Tryz.prog 162 #[.pointer (some ⟨b, 0, none⟩)] w (Toked b s p (tokR (s.data.toList.drop p)) w) := by
 have hl : letter c = false := by rw [hcv]; rfl
 have hdg : digit c = false := by rw [hcv]; rfl
 have hc0 : c ≠ 0 := by rw [hcv]; decide
 have hlt : p < s.size := hd_in hc hc0
 have hge : decide (s.size ≤ p) = false := by simpa using hlt
 have hge2 : ¬ s.size ≤ p := by omega
 have hr : s.data.toList.drop p = c :: s.data.toList.drop (p + 1) := by rw [drop_cons s p hlt, show s[p] = c from (hd_drop s p 0 hlt).symm.trans hc]
 have hE0 : tokR (s.data.toList.drop p) = symR (s.data.toList.drop (p + 1)) := by rw [hr, hcv]; rfl
 obtain ⟨E, hEE⟩ : ∃ E, symR (s.data.toList.drop (p + 1)) = E := ⟨_, rfl⟩
 have hE : tokR (s.data.toList.drop p) = E := hE0.trans hEE
 have HEE := Lib.hid hEE
 have n36 : ((c.toNat : Int) == 36) = false := by rw [hcv]; rfl
 have n39 : ((c.toNat : Int) == 39) = false := by rw [hcv]; rfl
 have n35 : ((c.toNat : Int) == 35) = true := by rw [hcv]; rfl
 clear hE0 hEE hcv hr
 rw [hE]
 have hbl := hrd.lt
 go_enter Tryz.func162, Tryz.ntmps162
 go_wp2_with fail
 have hr0 := hrd.alloc (Obj.cells #[.int .i64 0, .string ⟨#[]⟩, .int .i64 0, .int .i64 0] TT)
 have hm0 := (Mv.refl b w).alloc (Obj.cells #[.int .i64 0, .string ⟨#[]⟩, .int .i64 0, .int .i64 0] TT)
 have ht0 : Tk TT w.heap.size 0 ⟨#[]⟩ 0 0 (w.alloc (Obj.cells #[.int .i64 0, .string ⟨#[]⟩, .int .i64 0, .int .i64 0] TT)) := Tk.made w
 have hz0 : w.heap.size < (w.alloc (Obj.cells #[.int .i64 0, .string ⟨#[]⟩, .int .i64 0, .int .i64 0] TT)).heap.size := by simp
 obtain ⟨W0, hW⟩ : ∃ W0, w.alloc (Obj.cells #[.int .i64 0, .string ⟨#[]⟩, .int .i64 0, .int .i64 0] TT) = W0 := ⟨_, rfl⟩
 rw [hW] at hr0 hm0 ht0 hz0 ⊢
 clear hW
 refine (skip_any hs hat hr0).mono ?_; intro e w1 hsk
 rw [hk] at hsk
 obtain ⟨rfl, hr1, hm1⟩ := hsk
 rw [hp] at hr1
 have ht1 := ht0.mv hm1 (by omega)
 have hz1 : w.heap.size < w1.heap.size := Nat.lt_of_lt_of_le hz0 hm1.size
 have hm1 := hm0.trans hm1
 clear hr0 hm0 ht0 hz0
 have c1 := hr1.c1
 go_wp2_with fail
 have hS : Sn b s p w1.heap.size 0 (p : Int) ⟨#[]⟩ 0 w (w1.alloc (Obj.cells #[.int .i64 0, .string ⟨#[]⟩, .int .i64 0, .int .i64 (p : Int)] TT)) := ⟨hr1.alloc _, hm1.alloc _, ht1.alloc _, Tk.made w1, hz1⟩
 clear hr1 hm1 ht1 c1 hz1
 obtain ⟨W, hW⟩ : ∃ W, w1.alloc (Obj.cells #[.int .i64 0, .string ⟨#[]⟩, .int .i64 0, .int .i64 (p : Int)] TT) = W := ⟨_, rfl⟩
 rw [hW] at hS ⊢
 clear hW
 obtain ⟨K, hK⟩ : ∃ K, w1.heap.size = K := ⟨_, rfl⟩
 rw [hK] at hS ⊢
 clear hK
 have hKb : ¬ K = b := by have := hS.lt; omega
 have hbK : ¬ b = K := by omega
 have hKw : ¬ K = w.heap.size := by have := hS.lt; omega
 have hwK : ¬ w.heap.size = K := by omega
 have hwb : ¬ w.heap.size = b := by omega
 have hbw : ¬ b = w.heap.size := by omega
 refine (peekR0 hs hp2 hS.rd).mono ?_; rintro e w2 ⟨rfl, n1, hw⟩
 have hS : Sn b s p K 0 (p : Int) ⟨#[]⟩ 0 w w2 := by rw [hw]; exact hS.drewN _
 clear hw
 rw [hc]
 have c0 := hS.rd.c0
 have c1 := hS.rd.c1
 go_wp2_with fail
 go_quiet (fail)
 have hS := hS.drewN nq
 obtain ⟨W3, hW⟩ : ∃ W', w2.drewN nq = W' := ⟨_, rfl⟩
 rw [hW] at hS ⊢
 clear hW
 clear c0 c1
 go_wp2_with fail
 refine (letter_any c _).mono ?_; rintro e w' ⟨rfl, rfl⟩
 rw [hl]
 go_wp2_with fail
 refine (digit_any c _).mono ?_; rintro e w' ⟨rfl, rfl⟩
 rw [hdg]
 have c1 := hS.rd.c1
 have df := hS.rd.fz
 have hsum : IntKind.i64.wrap ((p : Int) + 1) = (p : Int) + 1 := IntWalk.i64_in _ (by omega)
 have g0 := hS.t1.c0
 have g1 := hS.t1.c1
 have g2 := hS.t1.c2
 have g3 := hS.t1.c3
 have gf := hS.t1.fz
 go_wp2_with fail
 have hS := hS.move hbl (p + 1)
 rw [show ((p + 1 : Nat) : Int) = (p : Int) + 1 by omega] at hS
 obtain ⟨W4, hW⟩ : ∃ W', W3.setCell ⟨b, 1, none⟩ (.int .i64 ((p : Int) + 1)) = W' := ⟨_, rfl⟩
 rw [hW] at hS ⊢
 clear hW
 clear g0 g1 g2 g3 gf
 clear c1
 refine (symbol_any hs (by omega) hS.rd).mono ?_; intro e w5 ht
 rw [HEE.out] at ht
 cases E with
 | error x =>
  obtain ⟨q, n⟩ := x
  obtain ⟨rfl, hm⟩ := ht
  go_wp2
  exact ⟨rfl, rfl, hS.mv.trans hm⟩
 | ok y =>
  obtain ⟨t, n⟩ := y
  obtain ⟨rfl, hr5, hm5⟩ := ht
  have hS := hS.call hbl hr5 hm5
  clear hr5 hm5
  unfold tokV
  have e0 := hS.t0.c0
  have e1 := hS.t0.c1
  have e2 := hS.t0.c2
  have e3 := hS.t0.c3
  have ef := hS.t0.fz
  go_wp2_with fail
  refine bodyPost_ret (v := .agg #[.int .i64 (t.kind : Int), .string ⟨t.word.toArray⟩, .int .i64 t.num, .int .i64 ((p + t.at_ : Nat) : Int)]) (by simp [results, Tryz.results162, go_sem, e0, e1, e2, e3]) rfl ?_
  obtain ⟨f1, f2⟩ := fin4 hS.rd hS.mv hbl (.int .i64 (t.kind : Int)) (.string ⟨t.word.toArray⟩) (.int .i64 t.num) (.int .i64 ((p + t.at_ : Nat) : Int))
  exact ⟨rfl, f1, f2⟩
end Lx
end Go.Proofs.YtfbhokdcnjekiaaGreatDoor
namespace Go.Proofs.YtfbhokdcnjekiaaGreatDoor
open Go.RowKit
namespace Lx
variable {b at_ k p : Nat} {s : ByteArray} {w : World}
end Lx
end Go.Proofs.YtfbhokdcnjekiaaGreatDoor
namespace Go.Proofs.YtfbhokdcnjekiaaGreatDoor
open Go.RowKit
namespace Lx
variable {b at_ k p : Nat} {s : ByteArray} {w : World}
end Lx
end Go.Proofs.YtfbhokdcnjekiaaGreatDoor
namespace Go.Proofs.YtfbhokdcnjekiaaGreatDoor
open Go.RowKit
namespace Lx
variable {b at_ k p : Nat} {s : ByteArray} {w : World}
end Lx
end Go.Proofs.YtfbhokdcnjekiaaGreatDoor
namespace Go.Proofs.YtfbhokdcnjekiaaGreatDoor
open Go.RowKit
namespace Lx
variable {b at_ k p : Nat} {s : ByteArray} {w : World}
end Lx
end Go.Proofs.YtfbhokdcnjekiaaGreatDoor
namespace Go.Proofs.YtfbhokdcnjekiaaGreatDoor
open Go.RowKit
namespace Lx
/-- What Next hands back where it begins at a. -/
def Nexted (a : Nat) (x : Except Err (Tok × Nat)) (w : World) (e : Ending) (w' : World) : Prop :=
 Below w.heap.size w w' ∧ match x with
 | .error (p, n) => e = .returned (.tuple #[tokV 0 ⟨0, [], 0, 0⟩, .int .i64 ((a + p : Nat) : Int), .int .i64 n])
 | .ok (t, n) => e = .returned (.tuple #[tokV a t, .int .i64 ((a + n : Nat) : Int), .int .i64 0])
theorem ErrVar_lt {w : World} (h : ErrVar w) : 7 < w.heap.size := by
 obtain ⟨tp, p, hv⟩ := h
 have hg : Tryz.prog.globalNamed "strconv.ErrRange" = some 7 := by kernel_rfl
 rcases Nat.lt_or_ge 7 w.heap.size with h | h
 · exact h
 · exfalso
   unfold World.var? at hv
   simp only [hg, Option.bind_some, Array.getElem?_eq_none h] at hv
   cases hv
theorem One.made {T : Nat} {v : Value} (w : World) : One T w.heap.size v (w.alloc (.cells #[v] T)) := Go.Deep.blk_alloc_new w _
theorem Rd.made {T : Nat} {s : ByteArray} {a : Nat} (w : World) : Rd T w.heap.size s a (w.alloc (.cells #[.string s, .int .i64 (a : Int)] T)) := Go.Deep.blk_alloc_new w _
theorem One.mv {T k b : Nat} {v : Value} {w w' : World} (h : One T k v w) (hm : Mv b w w') (hb : k ≠ b) : One T k v w' := (hm.block k (lt_of_block h) hb).trans h
/-- Next's own blocks: a token, two numbers, the reader. -/
structure Nx (s : ByteArray) (z : Nat) (kd : Int) (wd : ByteArray) (n a : Int) (x y : Int) (w W : World) : Prop where
 rd : Rd RT (w.heap.size + 1 + 1 + 1) s z W
 t0 : Tk TT w.heap.size kd wd n a W
 o1 : One IT (w.heap.size + 1) (.int .i64 x) W
 o2 : One ET (w.heap.size + 1 + 1) (.int .i64 y) W
 be : Below w.heap.size w W
theorem Nx.made (s : ByteArray) (z : Nat) (w : World) : Nx s z 0 ⟨#[]⟩ 0 0 0 0 w ((((w.alloc (Obj.cells #[.int .i64 0, .string ⟨#[]⟩, .int .i64 0, .int .i64 0] TT)).alloc (Obj.cells #[.int .i64 0] IT)).alloc (Obj.cells #[.int .i64 0] ET)).alloc (Obj.cells #[.string s, .int .i64 (z : Int)] RT)) where
 rd := by have := Rd.made (T := RT) (s := s) (a := z) (((w.alloc (Obj.cells #[.int .i64 0, .string ⟨#[]⟩, .int .i64 0, .int .i64 0] TT)).alloc (Obj.cells #[.int .i64 0] IT)).alloc (Obj.cells #[.int .i64 0] ET)); simpa using this
 t0 := (((Tk.made w).alloc _).alloc _).alloc _
 o1 := by have := One.made (T := IT) (v := .int .i64 0) (w.alloc (Obj.cells #[.int .i64 0, .string ⟨#[]⟩, .int .i64 0, .int .i64 0] TT)); simpa using (this.alloc (Obj.cells #[.int .i64 0] ET)).alloc (Obj.cells #[.string s, .int .i64 (z : Int)] RT)
 o2 := by have := One.made (T := ET) (v := .int .i64 0) ((w.alloc (Obj.cells #[.int .i64 0, .string ⟨#[]⟩, .int .i64 0, .int .i64 0] TT)).alloc (Obj.cells #[.int .i64 0] IT)); simpa using this.alloc (Obj.cells #[.string s, .int .i64 (z : Int)] RT)
 be := (((((Below.refl _ w).alloc (Nat.le_refl _) _).alloc (by simp) _).alloc (by simp; omega) _).alloc (by simp; omega) _)
theorem Nx.call {s : ByteArray} {z z' : Nat} {kd n a x y : Int} {wd : ByteArray} {w W W' : World} (h : Nx s z kd wd n a x y w W) (hr : Rd RT (w.heap.size + 1 + 1 + 1) s z' W') (hm : Mv (w.heap.size + 1 + 1 + 1) W W') : Nx s z' kd wd n a x y w W' where
 rd := hr
 t0 := h.t0.mv hm (by omega)
 o1 := h.o1.mv hm (by omega)
 o2 := h.o2.mv hm (by omega)
 be := h.be.trans (hm.new_below (by omega) h.be.size)
theorem Nx.row {s : ByteArray} {z : Nat} {kd n a x y : Int} {wd : ByteArray} {w W : World} (h : Nx s z kd wd n a x y w W) (kd' n' a' : Int) (wd' : ByteArray) :
  Nx s z kd' wd' n' a' x y w ((((W.setCell ⟨w.heap.size, 0, none⟩ (.int .i64 kd')).setCell ⟨w.heap.size, 1, none⟩ (.string wd')).setCell ⟨w.heap.size, 2, none⟩ (.int .i64 n')).setCell ⟨w.heap.size, 3, none⟩ (.int .i64 a')) := by
 have n1 : w.heap.size + 1 + 1 + 1 ≠ w.heap.size := by omega
 have n2 : w.heap.size + 1 ≠ w.heap.size := by omega
 have n3 : w.heap.size + 1 + 1 ≠ w.heap.size := by omega
 exact ⟨(((h.rd.far n1 _).far n1 _).far n1 _).far n1 _, (((h.t0.set0 kd').set1 wd').set2 n').set3 a', (((h.o1.far n2 _).far n2 _).far n2 _).far n2 _, (((h.o2.far n3 _).far n3 _).far n3 _).far n3 _,
  (((h.be.setCell (p := ⟨w.heap.size, 0, none⟩) (Nat.le_refl _) _).setCell (p := ⟨w.heap.size, 1, none⟩) (Nat.le_refl _) _).setCell (p := ⟨w.heap.size, 2, none⟩) (Nat.le_refl _) _).setCell (p := ⟨w.heap.size, 3, none⟩) (Nat.le_refl _) _⟩
theorem Nx.ones {s : ByteArray} {z : Nat} {kd n a x y : Int} {wd : ByteArray} {w W : World} (h : Nx s z kd wd n a x y w W) (x' y' : Int) :
  Nx s z kd wd n a x' y' w ((W.setCell ⟨w.heap.size + 1, 0, none⟩ (.int .i64 x')).setCell ⟨w.heap.size + 1 + 1, 0, none⟩ (.int .i64 y')) :=
 ⟨(h.rd.far (show w.heap.size + 1 + 1 + 1 ≠ w.heap.size + 1 by omega) _).far (show w.heap.size + 1 + 1 + 1 ≠ w.heap.size + 1 + 1 by omega) _,
  (h.t0.far (show w.heap.size ≠ w.heap.size + 1 by omega) _).far (show w.heap.size ≠ w.heap.size + 1 + 1 by omega) _,
  (h.o1.set_ _).far (show w.heap.size + 1 ≠ w.heap.size + 1 + 1 by omega) _,
  (h.o2.far (show w.heap.size + 1 + 1 ≠ w.heap.size + 1 by omega) _).set_ _,
  (h.be.setCell (p := ⟨w.heap.size + 1, 0, none⟩) (show w.heap.size ≤ w.heap.size + 1 by omega) _).setCell (p := ⟨w.heap.size + 1 + 1, 0, none⟩) (show w.heap.size ≤ w.heap.size + 1 + 1 by omega) _⟩
theorem Nx.drew {s : ByteArray} {z : Nat} {kd n a x y : Int} {wd : ByteArray} {w W : World} (h : Nx s z kd wd n a x y w W) : Nx s z kd wd n a x y w W.drew := ⟨h.rd, h.t0, h.o1, h.o2, h.be.drew⟩
variable {s : ByteArray} {w : World}
end Lx
end Go.Proofs.YtfbhokdcnjekiaaGreatDoor
