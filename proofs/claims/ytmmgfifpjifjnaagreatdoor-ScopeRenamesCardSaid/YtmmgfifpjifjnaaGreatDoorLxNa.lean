/- Package lex, the walk, next: what its walks lean on (wip/gen/gen_next.py prints this). · Package lex, the walk, next: the end (wip/gen/gen_next.py prints this). · Package lex, the walk, next: a name (wip/gen/gen_next.py prints this). · Package lex, the walk, next: a keyword (wip/gen/gen_next.py prints this). · Package lex, the walk, next: digits (wip/gen/gen_next.py prints this). · Package lex, the walk, next: a colon (wip/gen/gen_next.py prints this). · Package lex, the walk, next: a mark (wip/gen/gen_next.py prints this). · Package lex, the walk, next: an operator (wip/gen/gen_next.py prints this). · Package lex, the walk, 14: next whole. · Package lex, the walk, 16: Next. -/
import Derived.Test.YtmmgfifpjifjnaaGreatDoorLxWb
import Derived.StillTailTactics
import Derived.RegionTactic
set_option linter.unusedVariables false
namespace Go.Proofs.YtmmgfifpjifjnaaGreatDoor
open Go.RowKit
namespace Lx
structure Sn (b : Nat) (s : ByteArray) (z k : Nat) (kd a : Int) (x : ByteArray) (n : Int) (w W : World) : Prop where
 rd : Rd RT b s z W
 mv : Mv b w W
 t0 : Tk TT w.heap.size 0 ⟨#[]⟩ 0 0 W
 t1 : Tk TT k kd x n a W
 lt : w.heap.size < k
section
variable {b z z' k : Nat} {s x : ByteArray} {kd a n : Int} {w W W' : World}
theorem Sn.call (h : Sn b s z k kd a x n w W) (hb : b < w.heap.size) (hr : Rd RT b s z' W') (hm : Mv b W W') : Sn b s z' k kd a x n w W' :=
 ⟨hr, h.mv.trans hm, h.t0.mv hm (by omega), h.t1.mv hm (by have := h.lt; omega), h.lt⟩
theorem Sn.drewN (h : Sn b s z k kd a x n w W) (m : Nat) : Sn b s z k kd a x n w (W.drewN m) := ⟨h.rd.drewN m, h.mv.drewN m, h.t0.drewN m, h.t1.drewN m, h.lt⟩
theorem Sn.drew (h : Sn b s z k kd a x n w W) : Sn b s z k kd a x n w W.drew := ⟨h.rd, h.mv.drew, h.t0, h.t1, h.lt⟩
theorem Sn.set0 (h : Sn b s z k kd a x n w W) (hb : b < w.heap.size) (y : Int) : Sn b s z k y a x n w (W.setCell ⟨k, 0, none⟩ (.int .i64 y)) :=
 ⟨h.rd.far (show b ≠ k by have := h.lt; omega) _, h.mv.new (show w.heap.size ≤ k by have := h.lt; omega) _, h.t0.far (show w.heap.size ≠ k by have := h.lt; omega) _, h.t1.set0 y, h.lt⟩
theorem Sn.set1 (h : Sn b s z k kd a x n w W) (hb : b < w.heap.size) (y : ByteArray) : Sn b s z k kd a y n w (W.setCell ⟨k, 1, none⟩ (.string y)) :=
 ⟨h.rd.far (show b ≠ k by have := h.lt; omega) _, h.mv.new (show w.heap.size ≤ k by have := h.lt; omega) _, h.t0.far (show w.heap.size ≠ k by have := h.lt; omega) _, h.t1.set1 y, h.lt⟩
theorem Sn.set2 (h : Sn b s z k kd a x n w W) (hb : b < w.heap.size) (y : Int) : Sn b s z k kd a x y w (W.setCell ⟨k, 2, none⟩ (.int .i64 y)) :=
 ⟨h.rd.far (show b ≠ k by have := h.lt; omega) _, h.mv.new (show w.heap.size ≤ k by have := h.lt; omega) _, h.t0.far (show w.heap.size ≠ k by have := h.lt; omega) _, h.t1.set2 y, h.lt⟩
theorem Sn.move (h : Sn b s z k kd a x n w W) (hb : b < w.heap.size) (y : Nat) : Sn b s y k kd a x n w (W.setCell ⟨b, 1, none⟩ (.int .i64 (y : Int))) :=
 ⟨h.rd.set_ y, h.mv.set_ 1 _, h.t0.far (show w.heap.size ≠ b by omega) _, h.t1.far (show k ≠ b by have := h.lt; omega) _, h.lt⟩
end
set_option maxRecDepth 100000 in
theorem sgl_idx (c : UInt8) : (∀ i, sgl c = some i → Lib.indexByte singleL c = (i : Int) ∧ i ≤ 6) ∧ (sgl c = none → Lib.indexByte singleL c = -1) := by
 have h : ∀ n : Fin 256, (match sgl (UInt8.ofNat n.val) with | some i => decide (Lib.indexByte singleL (UInt8.ofNat n.val) = (i : Int)) && decide (i ≤ 6) | none => decide (Lib.indexByte singleL (UInt8.ofNat n.val) = -1)) = true := by decide
 have := h ⟨c.toNat, c.toNat_lt⟩
 simp only [UInt8.ofNat_toNat] at this
 refine ⟨fun i hi => ?_, fun hi => ?_⟩
 · rw [hi] at this; simpa using this
 rw [hi] at this; simpa using this
theorem u8_back (c : UInt8) : ((c.toNat : Int)).toNat.toUInt8 = c := by
 rw [Int.toNat_natCast]; exact UInt8.ofNat_toNat
variable {b at_ k p : Nat} {s : ByteArray} {w : World}
set_option maxRecDepth 100000 in
set_option maxHeartbeats 1600000 in
theorem next_note (hs : s.size ≤ 140737488351232) (hat : at_ ≤ s.size) (hrd : Rd RT b s at_ w) (hk : sk none 0 (s.data.toList.drop at_) = .error k) :
  Calls Tryz.prog 96 #[.pointer (some ⟨b, 0, none⟩)] w (Fell b ((at_ + k : Nat) : Int) 4 w) := by
 go_enter Tryz.func96, Tryz.ntmps96
 go_wp2_with fail
 refine (skip_any hs hat (hrd.alloc _)).mono ?_; intro e w1 hsk
 rw [hk] at hsk
 obtain ⟨rfl, hm1⟩ := hsk
 go_wp2
 exact ⟨rfl, rfl, ((Mv.refl b w).alloc _).trans hm1⟩
end Lx
end Go.Proofs.YtmmgfifpjifjnaaGreatDoor
namespace Go.Proofs.YtmmgfifpjifjnaaGreatDoor
open Go.RowKit
namespace Lx
variable {b at_ k p : Nat} {s : ByteArray} {w : World}
set_option maxRecDepth 100000 in
set_option maxHeartbeats 1600000 in
theorem next_end (hs : s.size ≤ 140737488351232) (hat : at_ ≤ s.size) (hrd : Rd RT b s at_ w) (hk : sk none 0 (s.data.toList.drop at_) = .ok k) (hp : at_ + k = p) (hp2 : p ≤ s.size) (h : p = s.size) :
  Calls Tryz.prog 96 #[.pointer (some ⟨b, 0, none⟩)] w (Toked b s p (tokR (s.data.toList.drop p)) w) := by
 have hc : hd (s.data.toList.drop p) 0 = 0 := hd_past s p 0 (by omega)
 have hE : tokR (s.data.toList.drop p) = .ok (⟨0, [], 0, 0⟩, 0) := by rw [List.drop_eq_nil_of_le (show s.data.toList.length ≤ p from Nat.le_of_eq h.symm)]; rfl
 have hge : decide (s.size ≤ p) = true := by simp [h]
 have hge2 : s.size ≤ p := by omega
 clear h
 rw [hE]
 have hbl := hrd.lt
 go_enter Tryz.func96, Tryz.ntmps96
 go_wp2_with fail
 have hr0 := hrd.alloc (Obj.cells #[.int .i64 0, .string ⟨#[]⟩, .int .i64 0, .int .i64 0] TT)
 have hm0 := (Mv.refl b w).alloc (Obj.cells #[.int .i64 0, .string ⟨#[]⟩, .int .i64 0, .int .i64 0] TT)
 have ht0 : Tk TT w.heap.size 0 ⟨#[]⟩ 0 0 (w.alloc (Obj.cells #[.int .i64 0, .string ⟨#[]⟩, .int .i64 0, .int .i64 0] TT)) := Tk.made w
 have hz0 : w.heap.size < (w.alloc (Obj.cells #[.int .i64 0, .string ⟨#[]⟩, .int .i64 0, .int .i64 0] TT)).heap.size := by simp
 obtain ⟨W0, hW⟩ : ∃ W0, w.alloc (Obj.cells #[.int .i64 0, .string ⟨#[]⟩, .int .i64 0, .int .i64 0] TT) = W0 := ⟨_, rfl⟩
 rw [hW] at hr0 hm0 ht0 hz0 ⊢
 clear hW
 refine (skip_any hs hat hr0).mono ?_; intro e w1 hsk
 rw [hk] at hsk
 obtain ⟨rfl, hr1, hm1⟩ := hsk
 rw [hp] at hr1
 have ht1 := ht0.mv hm1 (by omega)
 have hz1 : w.heap.size < w1.heap.size := Nat.lt_of_lt_of_le hz0 hm1.size
 have hm1 := hm0.trans hm1
 clear hr0 hm0 ht0 hz0
 have c1 := hr1.c1
 go_wp2_with fail
 have hS : Sn b s p w1.heap.size 0 (p : Int) ⟨#[]⟩ 0 w (w1.alloc (Obj.cells #[.int .i64 0, .string ⟨#[]⟩, .int .i64 0, .int .i64 (p : Int)] TT)) := ⟨hr1.alloc _, hm1.alloc _, ht1.alloc _, Tk.made w1, hz1⟩
 clear hr1 hm1 ht1 c1 hz1
 obtain ⟨W, hW⟩ : ∃ W, w1.alloc (Obj.cells #[.int .i64 0, .string ⟨#[]⟩, .int .i64 0, .int .i64 (p : Int)] TT) = W := ⟨_, rfl⟩
 rw [hW] at hS ⊢
 clear hW
 obtain ⟨K, hK⟩ : ∃ K, w1.heap.size = K := ⟨_, rfl⟩
 rw [hK] at hS ⊢
 clear hK
 have hKb : ¬ K = b := by have := hS.lt; omega
 have hbK : ¬ b = K := by omega
 have hKw : ¬ K = w.heap.size := by have := hS.lt; omega
 have hwK : ¬ w.heap.size = K := by omega
 have hwb : ¬ w.heap.size = b := by omega
 have hbw : ¬ b = w.heap.size := by omega
 refine (peekR0 hs hp2 hS.rd).mono ?_; rintro e w2 ⟨rfl, n1, hw⟩
 have hS : Sn b s p K 0 (p : Int) ⟨#[]⟩ 0 w w2 := by rw [hw]; exact hS.drewN _
 clear hw
 rw [hc]
 have c0 := hS.rd.c0
 have c1 := hS.rd.c1
 go_wp2_with fail
 go_quiet (fail)
 have hS := hS.drewN nq
 obtain ⟨W3, hW⟩ : ∃ W', w2.drewN nq = W' := ⟨_, rfl⟩
 rw [hW] at hS ⊢
 clear hW
 clear c0 c1
 have e0 := hS.t0.c0
 have e1 := hS.t0.c1
 have e2 := hS.t0.c2
 have e3 := hS.t0.c3
 have ef := hS.t0.fz
 have g0 := hS.t1.c0
 have g1 := hS.t1.c1
 have g2 := hS.t1.c2
 have g3 := hS.t1.c3
 have gf := hS.t1.fz
 go_wp2_with fail
 refine bodyPost_ret (v := .agg #[.int .i64 0, .string ⟨#[]⟩, .int .i64 0, .int .i64 (p : Int)]) (by simp [results, Tryz.results96, go_sem, e0, e1, e2, e3]) rfl ?_
 obtain ⟨f1, f2⟩ := fin4 hS.rd hS.mv hbl (.int .i64 0) (.string ⟨#[]⟩) (.int .i64 0) (.int .i64 (p : Int))
 exact ⟨rfl, f1, f2⟩
end Lx
end Go.Proofs.YtmmgfifpjifjnaaGreatDoor
namespace Go.Proofs.YtmmgfifpjifjnaaGreatDoor
open Go.RowKit
namespace Lx
variable {b at_ k p : Nat} {s : ByteArray} {w : World}
theorem tok_letter {r : Bytes} {c : UInt8} (hc : hd r 0 = c) (hl : letter c = true) : tokR r = if 64 < wordL r then .error (0, 2) else .ok (⟨if colonB (r.drop (nameL r)) then 2 else 1, r.take (wordL r), 0, 0⟩, wordL r) := by
 cases r with
 | nil => subst hc; exact absurd hl (by decide)
 | cons d t =>
  obtain rfl : d = c := hc
  show tokC d t = _
  unfold tokC
  rw [if_pos hl]
set_option maxRecDepth 100000 in
set_option maxHeartbeats 1600000 in
theorem next_name (hs : s.size ≤ 140737488351232) (hat : at_ ≤ s.size) (hrd : Rd RT b s at_ w) (hk : sk none 0 (s.data.toList.drop at_) = .ok k) (hp : at_ + k = p) (hp2 : p ≤ s.size) {c : UInt8} (hc : hd (s.data.toList.drop p) 0 = c) (hl : letter c = true) (hcol : colonB (s.data.toList.drop (p + nameL (s.data.toList.drop p))) = false) :
  Calls Tryz.prog 96 #[.pointer (some ⟨b, 0, none⟩)] w (Toked b s p (tokR (s.data.toList.drop p)) w) := by
 have hc0 : c ≠ 0 := by intro h; rw [h] at hl; exact absurd hl (by decide)
 have hlt : p < s.size := hd_in hc hc0
 have hge : decide (s.size ≤ p) = false := by simpa using hlt
 have hge2 : ¬ s.size ≤ p := by omega
 have hE0 := tok_letter hc hl
 have hnl := nameL_le (s.data.toList.drop p)
 have hwl := wordL_le (s.data.toList.drop p)
 rw [dlen] at hnl hwl
 have HN := fun (v : World) (hv : Rd RT b s p v) => name_any hs hp2 hv
 have hwd : wordL (s.data.toList.drop p) = if colonB (s.data.toList.drop (p + nameL (s.data.toList.drop p))) then nameL (s.data.toList.drop p) + 1 else nameL (s.data.toList.drop p) := by unfold wordL; rw [List.drop_drop]
 rw [List.drop_drop] at hE0
 obtain ⟨q, hq⟩ : ∃ q, nameL (s.data.toList.drop p) = q := ⟨_, rfl⟩
 rw [hq] at hE0 hnl HN hwd
 obtain ⟨z, hz⟩ : ∃ z, wordL (s.data.toList.drop p) = z := ⟨_, rfl⟩
 rw [hz] at hE0 hwl hwd
 have hpq : p + q ≤ s.size := by omega
 have HC := fun (v : World) (hv : Rd RT b s (p + q) v) => colon_any hs hpq hv
 clear hz hnl
 rw [hq] at hcol
 rw [hcol] at hE0 HC hwd
 clear hcol hq
 have hzs : p + z ≤ s.size := by omega
 obtain ⟨Z, hZ⟩ : ∃ Z, p + z = Z := ⟨_, rfl⟩
 have hxl := ext_size s p Z (by omega) (by omega)
 obtain ⟨x, hx⟩ : ∃ x, s.extract p Z = x := ⟨_, rfl⟩
 have hx2 : s.extract p Z = x := hx
 rw [hx] at hxl
 rw [← hZ] at hx
 have hzq : z = q := hwd
 have hZq : p + q = Z := by omega
 simp only [Bool.false_eq_true, if_false, Nat.add_zero] at HC
 rw [hZq] at HC HN
 have hpZ : p ≤ Z := by omega
 have hZs : Z ≤ s.size := by omega
 have hpZi : (p : Int) ≤ (Z : Int) := by omega
 have hZsi : (Z : Int) ≤ (s.size : Int) := by omega
 have HN := Lib.hid HN
 have HC := Lib.hid HC
 have HX := Lib.hid hx
 clear hx hwl hwd
 simp only [Bool.false_eq_true, if_false] at hE0
 by_cases h64 : 64 < z
 · have hE : tokR (s.data.toList.drop p) = .error (0, 2) := hE0.trans (if_pos h64)
   have hx64 : 64 < x.size := by omega
   clear hE0 h64 hxl hzq hZq
   rw [hE]
   have hbl := hrd.lt
   go_enter Tryz.func96, Tryz.ntmps96
   go_wp2_with fail
   have hr0 := hrd.alloc (Obj.cells #[.int .i64 0, .string ⟨#[]⟩, .int .i64 0, .int .i64 0] TT)
   have hm0 := (Mv.refl b w).alloc (Obj.cells #[.int .i64 0, .string ⟨#[]⟩, .int .i64 0, .int .i64 0] TT)
   have ht0 : Tk TT w.heap.size 0 ⟨#[]⟩ 0 0 (w.alloc (Obj.cells #[.int .i64 0, .string ⟨#[]⟩, .int .i64 0, .int .i64 0] TT)) := Tk.made w
   have hz0 : w.heap.size < (w.alloc (Obj.cells #[.int .i64 0, .string ⟨#[]⟩, .int .i64 0, .int .i64 0] TT)).heap.size := by simp
   obtain ⟨W0, hW⟩ : ∃ W0, w.alloc (Obj.cells #[.int .i64 0, .string ⟨#[]⟩, .int .i64 0, .int .i64 0] TT) = W0 := ⟨_, rfl⟩
   rw [hW] at hr0 hm0 ht0 hz0 ⊢
   clear hW
   refine (skip_any hs hat hr0).mono ?_; intro e w1 hsk
   rw [hk] at hsk
   obtain ⟨rfl, hr1, hm1⟩ := hsk
   rw [hp] at hr1
   have ht1 := ht0.mv hm1 (by omega)
   have hz1 : w.heap.size < w1.heap.size := Nat.lt_of_lt_of_le hz0 hm1.size
   have hm1 := hm0.trans hm1
   clear hr0 hm0 ht0 hz0
   have c1 := hr1.c1
   go_wp2_with fail
   have hS : Sn b s p w1.heap.size 0 (p : Int) ⟨#[]⟩ 0 w (w1.alloc (Obj.cells #[.int .i64 0, .string ⟨#[]⟩, .int .i64 0, .int .i64 (p : Int)] TT)) := ⟨hr1.alloc _, hm1.alloc _, ht1.alloc _, Tk.made w1, hz1⟩
   clear hr1 hm1 ht1 c1 hz1
   obtain ⟨W, hW⟩ : ∃ W, w1.alloc (Obj.cells #[.int .i64 0, .string ⟨#[]⟩, .int .i64 0, .int .i64 (p : Int)] TT) = W := ⟨_, rfl⟩
   rw [hW] at hS ⊢
   clear hW
   obtain ⟨K, hK⟩ : ∃ K, w1.heap.size = K := ⟨_, rfl⟩
   rw [hK] at hS ⊢
   clear hK
   have hKb : ¬ K = b := by have := hS.lt; omega
   have hbK : ¬ b = K := by omega
   have hKw : ¬ K = w.heap.size := by have := hS.lt; omega
   have hwK : ¬ w.heap.size = K := by omega
   have hwb : ¬ w.heap.size = b := by omega
   have hbw : ¬ b = w.heap.size := by omega
   refine (peekR0 hs hp2 hS.rd).mono ?_; rintro e w2 ⟨rfl, n1, hw⟩
   have hS : Sn b s p K 0 (p : Int) ⟨#[]⟩ 0 w w2 := by rw [hw]; exact hS.drewN _
   clear hw
   rw [hc]
   have c0 := hS.rd.c0
   have c1 := hS.rd.c1
   go_wp2_with fail
   go_quiet (fail)
   have hS := hS.drewN nq
   obtain ⟨W3, hW⟩ : ∃ W', w2.drewN nq = W' := ⟨_, rfl⟩
   rw [hW] at hS ⊢
   clear hW
   clear c0 c1
   go_wp2_with fail
   refine (letter_any c _).mono ?_; rintro e w' ⟨rfl, rfl⟩
   rw [hl]
   have g0 := hS.t1.c0
   have g1 := hS.t1.c1
   have g2 := hS.t1.c2
   have g3 := hS.t1.c3
   have gf := hS.t1.fz
   go_wp2_with fail
   have hS := hS.set0 hbl 1
   obtain ⟨W4, hW⟩ : ∃ W', W3.setCell ⟨K, 0, none⟩ (.int .i64 1) = W' := ⟨_, rfl⟩
   rw [hW] at hS ⊢
   clear hW
   clear g0 g1 g2 g3 gf
   refine (HN.out _ hS.rd).mono ?_; rintro e w5 ⟨rfl, hr5, hm5⟩
   have hS := hS.call hbl hr5 hm5
   clear hr5 hm5
   go_wp2_with fail
   refine (HC.out _ hS.rd).mono ?_; rintro e w6 ⟨rfl, hr6, hm6⟩
   have hS := hS.call hbl hr6 hm6
   clear hr6 hm6
   go_wp2_with fail
   have g0 := hS.t1.c0
   have g1 := hS.t1.c1
   have g2 := hS.t1.c2
   have g3 := hS.t1.c3
   have gf := hS.t1.fz
   have c0 := hS.rd.c0
   have c1 := hS.rd.c1
   go_wp2_with fail
   go_still_tail 13, (by kernel_rfl)
   change wpList _ _ _ _ _ (World.drew w6)
   have hS := hS.drew
   obtain ⟨W8, hW⟩ : ∃ W', (World.drew w6) = W' := ⟨_, rfl⟩
   rw [hW] at hS ⊢
   clear hW
   clear g0 g1 g2 g3 gf
   clear c0 c1
   go_wp2_with fail
   refine (word_long _ x _ hx64).mono ?_; rintro e w9 ⟨rfl, rfl⟩
   go_wp2
   exact ⟨rfl, rfl, hS.mv⟩
 have hE : tokR (s.data.toList.drop p) = .ok (⟨1, (s.data.toList.drop p).take z, 0, 0⟩, z) := hE0.trans (if_neg h64)
 have hx64 : x.size ≤ 64 := by omega
 clear hE0 h64 hxl hzq hZq
 rw [hE]
 have hbl := hrd.lt
 go_enter Tryz.func96, Tryz.ntmps96
 go_wp2_with fail
 have hr0 := hrd.alloc (Obj.cells #[.int .i64 0, .string ⟨#[]⟩, .int .i64 0, .int .i64 0] TT)
 have hm0 := (Mv.refl b w).alloc (Obj.cells #[.int .i64 0, .string ⟨#[]⟩, .int .i64 0, .int .i64 0] TT)
 have ht0 : Tk TT w.heap.size 0 ⟨#[]⟩ 0 0 (w.alloc (Obj.cells #[.int .i64 0, .string ⟨#[]⟩, .int .i64 0, .int .i64 0] TT)) := Tk.made w
 have hz0 : w.heap.size < (w.alloc (Obj.cells #[.int .i64 0, .string ⟨#[]⟩, .int .i64 0, .int .i64 0] TT)).heap.size := by simp
 obtain ⟨W0, hW⟩ : ∃ W0, w.alloc (Obj.cells #[.int .i64 0, .string ⟨#[]⟩, .int .i64 0, .int .i64 0] TT) = W0 := ⟨_, rfl⟩
 rw [hW] at hr0 hm0 ht0 hz0 ⊢
 clear hW
 refine (skip_any hs hat hr0).mono ?_; intro e w1 hsk
 rw [hk] at hsk
 obtain ⟨rfl, hr1, hm1⟩ := hsk
 rw [hp] at hr1
 have ht1 := ht0.mv hm1 (by omega)
 have hz1 : w.heap.size < w1.heap.size := Nat.lt_of_lt_of_le hz0 hm1.size
 have hm1 := hm0.trans hm1
 clear hr0 hm0 ht0 hz0
 have c1 := hr1.c1
 go_wp2_with fail
 have hS : Sn b s p w1.heap.size 0 (p : Int) ⟨#[]⟩ 0 w (w1.alloc (Obj.cells #[.int .i64 0, .string ⟨#[]⟩, .int .i64 0, .int .i64 (p : Int)] TT)) := ⟨hr1.alloc _, hm1.alloc _, ht1.alloc _, Tk.made w1, hz1⟩
 clear hr1 hm1 ht1 c1 hz1
 obtain ⟨W, hW⟩ : ∃ W, w1.alloc (Obj.cells #[.int .i64 0, .string ⟨#[]⟩, .int .i64 0, .int .i64 (p : Int)] TT) = W := ⟨_, rfl⟩
 rw [hW] at hS ⊢
 clear hW
 obtain ⟨K, hK⟩ : ∃ K, w1.heap.size = K := ⟨_, rfl⟩
 rw [hK] at hS ⊢
 clear hK
 have hKb : ¬ K = b := by have := hS.lt; omega
 have hbK : ¬ b = K := by omega
 have hKw : ¬ K = w.heap.size := by have := hS.lt; omega
 have hwK : ¬ w.heap.size = K := by omega
 have hwb : ¬ w.heap.size = b := by omega
 have hbw : ¬ b = w.heap.size := by omega
 refine (peekR0 hs hp2 hS.rd).mono ?_; rintro e w2 ⟨rfl, n1, hw⟩
 have hS : Sn b s p K 0 (p : Int) ⟨#[]⟩ 0 w w2 := by rw [hw]; exact hS.drewN _
 clear hw
 rw [hc]
 have c0 := hS.rd.c0
 have c1 := hS.rd.c1
 go_wp2_with fail
 go_quiet (fail)
 have hS := hS.drewN nq
 obtain ⟨W3, hW⟩ : ∃ W', w2.drewN nq = W' := ⟨_, rfl⟩
 rw [hW] at hS ⊢
 clear hW
 clear c0 c1
 go_wp2_with fail
 refine (letter_any c _).mono ?_; rintro e w' ⟨rfl, rfl⟩
 rw [hl]
 have g0 := hS.t1.c0
 have g1 := hS.t1.c1
 have g2 := hS.t1.c2
 have g3 := hS.t1.c3
 have gf := hS.t1.fz
 go_wp2_with fail
 have hS := hS.set0 hbl 1
 obtain ⟨W4, hW⟩ : ∃ W', W3.setCell ⟨K, 0, none⟩ (.int .i64 1) = W' := ⟨_, rfl⟩
 rw [hW] at hS ⊢
 clear hW
 clear g0 g1 g2 g3 gf
 refine (HN.out _ hS.rd).mono ?_; rintro e w5 ⟨rfl, hr5, hm5⟩
 have hS := hS.call hbl hr5 hm5
 clear hr5 hm5
 go_wp2_with fail
 refine (HC.out _ hS.rd).mono ?_; rintro e w6 ⟨rfl, hr6, hm6⟩
 have hS := hS.call hbl hr6 hm6
 clear hr6 hm6
 go_wp2_with fail
 have g0 := hS.t1.c0
 have g1 := hS.t1.c1
 have g2 := hS.t1.c2
 have g3 := hS.t1.c3
 have gf := hS.t1.fz
 have c0 := hS.rd.c0
 have c1 := hS.rd.c1
 go_wp2_with fail
 go_still_tail 13, (by kernel_rfl)
 change wpList _ _ _ _ _ (World.drew w6)
 have hS := hS.drew
 obtain ⟨W8, hW⟩ : ∃ W', (World.drew w6) = W' := ⟨_, rfl⟩
 rw [hW] at hS ⊢
 clear hW
 clear g0 g1 g2 g3 gf
 clear c0 c1
 go_wp2_with fail
 refine (word_ok _ x _ hx64).mono ?_; rintro e w9 ⟨rfl, rfl⟩
 have e0 := hS.t0.c0
 have e1 := hS.t0.c1
 have e2 := hS.t0.c2
 have e3 := hS.t0.c3
 have ef := hS.t0.fz
 have g0 := hS.t1.c0
 have g1 := hS.t1.c1
 have g2 := hS.t1.c2
 have g3 := hS.t1.c3
 have gf := hS.t1.fz
 go_wp2_with fail
 have hS := hS.set1 hbl x
 refine bodyPost_ret (v := .agg #[.int .i64 1, .string x, .int .i64 0, .int .i64 (p : Int)]) (by simp [results, Tryz.results96, go_sem, e0, e1, e2, e3]) rfl ?_
 obtain ⟨f1, f2⟩ := fin4 hS.rd hS.mv hbl (.int .i64 1) (.string x) (.int .i64 0) (.int .i64 (p : Int))
 rw [← hZ] at f1
 exact ⟨ret1 (by rw [← HX.out, ext_word _ _ _ hzs]; rfl), f1, f2⟩
end Lx
end Go.Proofs.YtmmgfifpjifjnaaGreatDoor
namespace Go.Proofs.YtmmgfifpjifjnaaGreatDoor
open Go.RowKit
namespace Lx
variable {b at_ k p : Nat} {s : ByteArray} {w : World}
theorem tok_letterK {r : Bytes} {c : UInt8} (hc : hd r 0 = c) (hl : letter c = true) : tokR r = if 64 < wordL r then .error (0, 2) else .ok (⟨if colonB (r.drop (nameL r)) then 2 else 1, r.take (wordL r), 0, 0⟩, wordL r) := by
 cases r with
 | nil => subst hc; exact absurd hl (by decide)
 | cons d t =>
  obtain rfl : d = c := hc
  show tokC d t = _
  unfold tokC
  rw [if_pos hl]
set_option maxRecDepth 100000 in
set_option maxHeartbeats 1600000 in
theorem next_keyword (hs : s.size ≤ 140737488351232) (hat : at_ ≤ s.size) (hrd : Rd RT b s at_ w) (hk : sk none 0 (s.data.toList.drop at_) = .ok k) (hp : at_ + k = p) (hp2 : p ≤ s.size) {c : UInt8} (hc : hd (s.data.toList.drop p) 0 = c) (hl : letter c = true) (hcol : colonB (s.data.toList.drop (p + nameL (s.data.toList.drop p))) = true) :
  Calls Tryz.prog 96 #[.pointer (some ⟨b, 0, none⟩)] w (Toked b s p (tokR (s.data.toList.drop p)) w) := by
 have hc0 : c ≠ 0 := by intro h; rw [h] at hl; exact absurd hl (by decide)
 have hlt : p < s.size := hd_in hc hc0
 have hge : decide (s.size ≤ p) = false := by simpa using hlt
 have hge2 : ¬ s.size ≤ p := by omega
 have hE0 := tok_letterK hc hl
 have hnl := nameL_le (s.data.toList.drop p)
 have hwl := wordL_le (s.data.toList.drop p)
 rw [dlen] at hnl hwl
 have HN := fun (v : World) (hv : Rd RT b s p v) => name_any hs hp2 hv
 have hwd : wordL (s.data.toList.drop p) = if colonB (s.data.toList.drop (p + nameL (s.data.toList.drop p))) then nameL (s.data.toList.drop p) + 1 else nameL (s.data.toList.drop p) := by unfold wordL; rw [List.drop_drop]
 rw [List.drop_drop] at hE0
 obtain ⟨q, hq⟩ : ∃ q, nameL (s.data.toList.drop p) = q := ⟨_, rfl⟩
 rw [hq] at hE0 hnl HN hwd
 obtain ⟨z, hz⟩ : ∃ z, wordL (s.data.toList.drop p) = z := ⟨_, rfl⟩
 rw [hz] at hE0 hwl hwd
 have hpq : p + q ≤ s.size := by omega
 have HC := fun (v : World) (hv : Rd RT b s (p + q) v) => colon_any hs hpq hv
 clear hz hnl
 rw [hq] at hcol
 rw [hcol] at hE0 HC hwd
 clear hcol hq
 have hzs : p + z ≤ s.size := by omega
 obtain ⟨Z, hZ⟩ : ∃ Z, p + z = Z := ⟨_, rfl⟩
 have hxl := ext_size s p Z (by omega) (by omega)
 obtain ⟨x, hx⟩ : ∃ x, s.extract p Z = x := ⟨_, rfl⟩
 have hx2 : s.extract p Z = x := hx
 rw [hx] at hxl
 rw [← hZ] at hx
 have hzq : z = q + 1 := hwd
 have hZq : p + q + 1 = Z := by omega
 simp only [if_true] at HC
 rw [hZq] at HC
 have hpZ : p ≤ Z := by omega
 have hZs : Z ≤ s.size := by omega
 have hpZi : (p : Int) ≤ (Z : Int) := by omega
 have hZsi : (Z : Int) ≤ (s.size : Int) := by omega
 have HN := Lib.hid HN
 have HC := Lib.hid HC
 have HX := Lib.hid hx
 clear hx hwl hwd
 simp only [if_true] at hE0
 by_cases h64 : 64 < z
 · have hE : tokR (s.data.toList.drop p) = .error (0, 2) := hE0.trans (if_pos h64)
   have hx64 : 64 < x.size := by omega
   clear hE0 h64 hxl hzq hZq
   rw [hE]
   have hbl := hrd.lt
   go_enter Tryz.func96, Tryz.ntmps96
   go_wp2_with fail
   have hr0 := hrd.alloc (Obj.cells #[.int .i64 0, .string ⟨#[]⟩, .int .i64 0, .int .i64 0] TT)
   have hm0 := (Mv.refl b w).alloc (Obj.cells #[.int .i64 0, .string ⟨#[]⟩, .int .i64 0, .int .i64 0] TT)
   have ht0 : Tk TT w.heap.size 0 ⟨#[]⟩ 0 0 (w.alloc (Obj.cells #[.int .i64 0, .string ⟨#[]⟩, .int .i64 0, .int .i64 0] TT)) := Tk.made w
   have hz0 : w.heap.size < (w.alloc (Obj.cells #[.int .i64 0, .string ⟨#[]⟩, .int .i64 0, .int .i64 0] TT)).heap.size := by simp
   obtain ⟨W0, hW⟩ : ∃ W0, w.alloc (Obj.cells #[.int .i64 0, .string ⟨#[]⟩, .int .i64 0, .int .i64 0] TT) = W0 := ⟨_, rfl⟩
   rw [hW] at hr0 hm0 ht0 hz0 ⊢
   clear hW
   refine (skip_any hs hat hr0).mono ?_; intro e w1 hsk
   rw [hk] at hsk
   obtain ⟨rfl, hr1, hm1⟩ := hsk
   rw [hp] at hr1
   have ht1 := ht0.mv hm1 (by omega)
   have hz1 : w.heap.size < w1.heap.size := Nat.lt_of_lt_of_le hz0 hm1.size
   have hm1 := hm0.trans hm1
   clear hr0 hm0 ht0 hz0
   have c1 := hr1.c1
   go_wp2_with fail
   have hS : Sn b s p w1.heap.size 0 (p : Int) ⟨#[]⟩ 0 w (w1.alloc (Obj.cells #[.int .i64 0, .string ⟨#[]⟩, .int .i64 0, .int .i64 (p : Int)] TT)) := ⟨hr1.alloc _, hm1.alloc _, ht1.alloc _, Tk.made w1, hz1⟩
   clear hr1 hm1 ht1 c1 hz1
   obtain ⟨W, hW⟩ : ∃ W, w1.alloc (Obj.cells #[.int .i64 0, .string ⟨#[]⟩, .int .i64 0, .int .i64 (p : Int)] TT) = W := ⟨_, rfl⟩
   rw [hW] at hS ⊢
   clear hW
   obtain ⟨K, hK⟩ : ∃ K, w1.heap.size = K := ⟨_, rfl⟩
   rw [hK] at hS ⊢
   clear hK
   have hKb : ¬ K = b := by have := hS.lt; omega
   have hbK : ¬ b = K := by omega
   have hKw : ¬ K = w.heap.size := by have := hS.lt; omega
   have hwK : ¬ w.heap.size = K := by omega
   have hwb : ¬ w.heap.size = b := by omega
   have hbw : ¬ b = w.heap.size := by omega
   refine (peekR0 hs hp2 hS.rd).mono ?_; rintro e w2 ⟨rfl, n1, hw⟩
   have hS : Sn b s p K 0 (p : Int) ⟨#[]⟩ 0 w w2 := by rw [hw]; exact hS.drewN _
   clear hw
   rw [hc]
   have c0 := hS.rd.c0
   have c1 := hS.rd.c1
   go_wp2_with fail
   go_quiet (fail)
   have hS := hS.drewN nq
   obtain ⟨W3, hW⟩ : ∃ W', w2.drewN nq = W' := ⟨_, rfl⟩
   rw [hW] at hS ⊢
   clear hW
   clear c0 c1
   go_wp2_with fail
   refine (letter_any c _).mono ?_; rintro e w' ⟨rfl, rfl⟩
   rw [hl]
   have g0 := hS.t1.c0
   have g1 := hS.t1.c1
   have g2 := hS.t1.c2
   have g3 := hS.t1.c3
   have gf := hS.t1.fz
   go_wp2_with fail
   have hS := hS.set0 hbl 1
   obtain ⟨W4, hW⟩ : ∃ W', W3.setCell ⟨K, 0, none⟩ (.int .i64 1) = W' := ⟨_, rfl⟩
   rw [hW] at hS ⊢
   clear hW
   clear g0 g1 g2 g3 gf
   refine (HN.out _ hS.rd).mono ?_; rintro e w5 ⟨rfl, hr5, hm5⟩
   have hS := hS.call hbl hr5 hm5
   clear hr5 hm5
   go_wp2_with fail
   refine (HC.out _ hS.rd).mono ?_; rintro e w6 ⟨rfl, hr6, hm6⟩
   have hS := hS.call hbl hr6 hm6
   clear hr6 hm6
   have g0 := hS.t1.c0
   have g1 := hS.t1.c1
   have g2 := hS.t1.c2
   have g3 := hS.t1.c3
   have gf := hS.t1.fz
   go_wp2_with fail
   have hS := hS.set0 hbl 2
   obtain ⟨W7, hW⟩ : ∃ W', w6.setCell ⟨K, 0, none⟩ (.int .i64 2) = W' := ⟨_, rfl⟩
   rw [hW] at hS ⊢
   clear hW
   clear g0 g1 g2 g3 gf
   have g0 := hS.t1.c0
   have g1 := hS.t1.c1
   have g2 := hS.t1.c2
   have g3 := hS.t1.c3
   have gf := hS.t1.fz
   have c0 := hS.rd.c0
   have c1 := hS.rd.c1
   go_wp2_with fail
   go_still_tail 13, (by kernel_rfl)
   change wpList _ _ _ _ _ (World.drew W7)
   have hS := hS.drew
   obtain ⟨W8, hW⟩ : ∃ W', (World.drew W7) = W' := ⟨_, rfl⟩
   rw [hW] at hS ⊢
   clear hW
   clear g0 g1 g2 g3 gf
   clear c0 c1
   go_wp2_with fail
   refine (word_long _ x _ hx64).mono ?_; rintro e w9 ⟨rfl, rfl⟩
   go_wp2
   exact ⟨rfl, rfl, hS.mv⟩
 have hE : tokR (s.data.toList.drop p) = .ok (⟨2, (s.data.toList.drop p).take z, 0, 0⟩, z) := hE0.trans (if_neg h64)
 have hx64 : x.size ≤ 64 := by omega
 clear hE0 h64 hxl hzq hZq
 rw [hE]
 have hbl := hrd.lt
 go_enter Tryz.func96, Tryz.ntmps96
 go_wp2_with fail
 have hr0 := hrd.alloc (Obj.cells #[.int .i64 0, .string ⟨#[]⟩, .int .i64 0, .int .i64 0] TT)
 have hm0 := (Mv.refl b w).alloc (Obj.cells #[.int .i64 0, .string ⟨#[]⟩, .int .i64 0, .int .i64 0] TT)
 have ht0 : Tk TT w.heap.size 0 ⟨#[]⟩ 0 0 (w.alloc (Obj.cells #[.int .i64 0, .string ⟨#[]⟩, .int .i64 0, .int .i64 0] TT)) := Tk.made w
 have hz0 : w.heap.size < (w.alloc (Obj.cells #[.int .i64 0, .string ⟨#[]⟩, .int .i64 0, .int .i64 0] TT)).heap.size := by simp
 obtain ⟨W0, hW⟩ : ∃ W0, w.alloc (Obj.cells #[.int .i64 0, .string ⟨#[]⟩, .int .i64 0, .int .i64 0] TT) = W0 := ⟨_, rfl⟩
 rw [hW] at hr0 hm0 ht0 hz0 ⊢
 clear hW
 refine (skip_any hs hat hr0).mono ?_; intro e w1 hsk
 rw [hk] at hsk
 obtain ⟨rfl, hr1, hm1⟩ := hsk
 rw [hp] at hr1
 have ht1 := ht0.mv hm1 (by omega)
 have hz1 : w.heap.size < w1.heap.size := Nat.lt_of_lt_of_le hz0 hm1.size
 have hm1 := hm0.trans hm1
 clear hr0 hm0 ht0 hz0
 have c1 := hr1.c1
 go_wp2_with fail
 have hS : Sn b s p w1.heap.size 0 (p : Int) ⟨#[]⟩ 0 w (w1.alloc (Obj.cells #[.int .i64 0, .string ⟨#[]⟩, .int .i64 0, .int .i64 (p : Int)] TT)) := ⟨hr1.alloc _, hm1.alloc _, ht1.alloc _, Tk.made w1, hz1⟩
 clear hr1 hm1 ht1 c1 hz1
 obtain ⟨W, hW⟩ : ∃ W, w1.alloc (Obj.cells #[.int .i64 0, .string ⟨#[]⟩, .int .i64 0, .int .i64 (p : Int)] TT) = W := ⟨_, rfl⟩
 rw [hW] at hS ⊢
 clear hW
 obtain ⟨K, hK⟩ : ∃ K, w1.heap.size = K := ⟨_, rfl⟩
 rw [hK] at hS ⊢
 clear hK
 have hKb : ¬ K = b := by have := hS.lt; omega
 have hbK : ¬ b = K := by omega
 have hKw : ¬ K = w.heap.size := by have := hS.lt; omega
 have hwK : ¬ w.heap.size = K := by omega
 have hwb : ¬ w.heap.size = b := by omega
 have hbw : ¬ b = w.heap.size := by omega
 refine (peekR0 hs hp2 hS.rd).mono ?_; rintro e w2 ⟨rfl, n1, hw⟩
 have hS : Sn b s p K 0 (p : Int) ⟨#[]⟩ 0 w w2 := by rw [hw]; exact hS.drewN _
 clear hw
 rw [hc]
 have c0 := hS.rd.c0
 have c1 := hS.rd.c1
 go_wp2_with fail
 go_quiet (fail)
 have hS := hS.drewN nq
 obtain ⟨W3, hW⟩ : ∃ W', w2.drewN nq = W' := ⟨_, rfl⟩
 rw [hW] at hS ⊢
 clear hW
 clear c0 c1
 go_wp2_with fail
 refine (letter_any c _).mono ?_; rintro e w' ⟨rfl, rfl⟩
 rw [hl]
 have g0 := hS.t1.c0
 have g1 := hS.t1.c1
 have g2 := hS.t1.c2
 have g3 := hS.t1.c3
 have gf := hS.t1.fz
 go_wp2_with fail
 have hS := hS.set0 hbl 1
 obtain ⟨W4, hW⟩ : ∃ W', W3.setCell ⟨K, 0, none⟩ (.int .i64 1) = W' := ⟨_, rfl⟩
 rw [hW] at hS ⊢
 clear hW
 clear g0 g1 g2 g3 gf
 refine (HN.out _ hS.rd).mono ?_; rintro e w5 ⟨rfl, hr5, hm5⟩
 have hS := hS.call hbl hr5 hm5
 clear hr5 hm5
 go_wp2_with fail
 refine (HC.out _ hS.rd).mono ?_; rintro e w6 ⟨rfl, hr6, hm6⟩
 have hS := hS.call hbl hr6 hm6
 clear hr6 hm6
 have g0 := hS.t1.c0
 have g1 := hS.t1.c1
 have g2 := hS.t1.c2
 have g3 := hS.t1.c3
 have gf := hS.t1.fz
 go_wp2_with fail
 have hS := hS.set0 hbl 2
 obtain ⟨W7, hW⟩ : ∃ W', w6.setCell ⟨K, 0, none⟩ (.int .i64 2) = W' := ⟨_, rfl⟩
 rw [hW] at hS ⊢
 clear hW
 clear g0 g1 g2 g3 gf
 have g0 := hS.t1.c0
 have g1 := hS.t1.c1
 have g2 := hS.t1.c2
 have g3 := hS.t1.c3
 have gf := hS.t1.fz
 have c0 := hS.rd.c0
 have c1 := hS.rd.c1
 go_wp2_with fail
 go_still_tail 13, (by kernel_rfl)
 change wpList _ _ _ _ _ (World.drew W7)
 have hS := hS.drew
 obtain ⟨W8, hW⟩ : ∃ W', (World.drew W7) = W' := ⟨_, rfl⟩
 rw [hW] at hS ⊢
 clear hW
 clear g0 g1 g2 g3 gf
 clear c0 c1
 go_wp2_with fail
 refine (word_ok _ x _ hx64).mono ?_; rintro e w9 ⟨rfl, rfl⟩
 have e0 := hS.t0.c0
 have e1 := hS.t0.c1
 have e2 := hS.t0.c2
 have e3 := hS.t0.c3
 have ef := hS.t0.fz
 have g0 := hS.t1.c0
 have g1 := hS.t1.c1
 have g2 := hS.t1.c2
 have g3 := hS.t1.c3
 have gf := hS.t1.fz
 go_wp2_with fail
 have hS := hS.set1 hbl x
 refine bodyPost_ret (v := .agg #[.int .i64 2, .string x, .int .i64 0, .int .i64 (p : Int)]) (by simp [results, Tryz.results96, go_sem, e0, e1, e2, e3]) rfl ?_
 obtain ⟨f1, f2⟩ := fin4 hS.rd hS.mv hbl (.int .i64 2) (.string x) (.int .i64 0) (.int .i64 (p : Int))
 rw [← hZ] at f1
 exact ⟨ret1 (by rw [← HX.out, ext_word _ _ _ hzs]; rfl), f1, f2⟩
end Lx
end Go.Proofs.YtmmgfifpjifjnaaGreatDoor
namespace Go.Proofs.YtmmgfifpjifjnaaGreatDoor
open Go.RowKit
namespace Lx
variable {b at_ k p : Nat} {s : ByteArray} {w : World}
theorem tok_digit {r : Bytes} {c : UInt8} (hc : hd r 0 = c) (hl : letter c = false) (hdg : digit c = true) : tokR r = numR r := by
 cases r with
 | nil => subst hc; exact absurd hdg (by decide)
 | cons d t =>
  obtain rfl : d = c := hc
  show tokC d t = _
  unfold tokC numR
  rw [hl, hdg, if_neg (by decide), if_pos rfl]
set_option maxRecDepth 100000 in
set_option maxHeartbeats 1600000 in
theorem next_digit (hs : s.size ≤ 140737488351232) (hat : at_ ≤ s.size) (hrd : Rd RT b s at_ w) (hk : sk none 0 (s.data.toList.drop at_) = .ok k) (hp : at_ + k = p) (hp2 : p ≤ s.size) {c : UInt8} (hc : hd (s.data.toList.drop p) 0 = c) (hl : letter c = false) (hdg : digit c = true) (hv : ErrVar w) (hvb : 2 ≠ b) :
  Calls Tryz.prog 96 #[.pointer (some ⟨b, 0, none⟩)] w (Toked b s p (tokR (s.data.toList.drop p)) w) := by
 have hc0 : c ≠ 0 := by intro h; rw [h] at hdg; exact absurd hdg (by decide)
 have hlt : p < s.size := hd_in hc hc0
 have hge : decide (s.size ≤ p) = false := by simpa using hlt
 have hge2 : ¬ s.size ≤ p := by omega
 have hE0 := tok_digit hc hl hdg
 obtain ⟨E, hEE⟩ : ∃ E, numR (s.data.toList.drop p) = E := ⟨_, rfl⟩
 have hE : tokR (s.data.toList.drop p) = E := hE0.trans hEE
 have HV := Lib.hid hv
 have HEE := Lib.hid hEE
 clear hv hE0 hEE
 rw [hE]
 have hbl := hrd.lt
 go_enter Tryz.func96, Tryz.ntmps96
 go_wp2_with fail
 have hr0 := hrd.alloc (Obj.cells #[.int .i64 0, .string ⟨#[]⟩, .int .i64 0, .int .i64 0] TT)
 have hm0 := (Mv.refl b w).alloc (Obj.cells #[.int .i64 0, .string ⟨#[]⟩, .int .i64 0, .int .i64 0] TT)
 have ht0 : Tk TT w.heap.size 0 ⟨#[]⟩ 0 0 (w.alloc (Obj.cells #[.int .i64 0, .string ⟨#[]⟩, .int .i64 0, .int .i64 0] TT)) := Tk.made w
 have hz0 : w.heap.size < (w.alloc (Obj.cells #[.int .i64 0, .string ⟨#[]⟩, .int .i64 0, .int .i64 0] TT)).heap.size := by simp
 obtain ⟨W0, hW⟩ : ∃ W0, w.alloc (Obj.cells #[.int .i64 0, .string ⟨#[]⟩, .int .i64 0, .int .i64 0] TT) = W0 := ⟨_, rfl⟩
 rw [hW] at hr0 hm0 ht0 hz0 ⊢
 clear hW
 refine (skip_any hs hat hr0).mono ?_; intro e w1 hsk
 rw [hk] at hsk
 obtain ⟨rfl, hr1, hm1⟩ := hsk
 rw [hp] at hr1
 have ht1 := ht0.mv hm1 (by omega)
 have hz1 : w.heap.size < w1.heap.size := Nat.lt_of_lt_of_le hz0 hm1.size
 have hm1 := hm0.trans hm1
 clear hr0 hm0 ht0 hz0
 have c1 := hr1.c1
 go_wp2_with fail
 have hS : Sn b s p w1.heap.size 0 (p : Int) ⟨#[]⟩ 0 w (w1.alloc (Obj.cells #[.int .i64 0, .string ⟨#[]⟩, .int .i64 0, .int .i64 (p : Int)] TT)) := ⟨hr1.alloc _, hm1.alloc _, ht1.alloc _, Tk.made w1, hz1⟩
 clear hr1 hm1 ht1 c1 hz1
 obtain ⟨W, hW⟩ : ∃ W, w1.alloc (Obj.cells #[.int .i64 0, .string ⟨#[]⟩, .int .i64 0, .int .i64 (p : Int)] TT) = W := ⟨_, rfl⟩
 rw [hW] at hS ⊢
 clear hW
 obtain ⟨K, hK⟩ : ∃ K, w1.heap.size = K := ⟨_, rfl⟩
 rw [hK] at hS ⊢
 clear hK
 have hKb : ¬ K = b := by have := hS.lt; omega
 have hbK : ¬ b = K := by omega
 have hKw : ¬ K = w.heap.size := by have := hS.lt; omega
 have hwK : ¬ w.heap.size = K := by omega
 have hwb : ¬ w.heap.size = b := by omega
 have hbw : ¬ b = w.heap.size := by omega
 refine (peekR0 hs hp2 hS.rd).mono ?_; rintro e w2 ⟨rfl, n1, hw⟩
 have hS : Sn b s p K 0 (p : Int) ⟨#[]⟩ 0 w w2 := by rw [hw]; exact hS.drewN _
 clear hw
 rw [hc]
 have c0 := hS.rd.c0
 have c1 := hS.rd.c1
 go_wp2_with fail
 go_quiet (fail)
 have hS := hS.drewN nq
 obtain ⟨W3, hW⟩ : ∃ W', w2.drewN nq = W' := ⟨_, rfl⟩
 rw [hW] at hS ⊢
 clear hW
 clear c0 c1
 go_wp2_with fail
 refine (letter_any c _).mono ?_; rintro e w' ⟨rfl, rfl⟩
 rw [hl]
 go_wp2_with fail
 refine (digit_any c _).mono ?_; rintro e w' ⟨rfl, rfl⟩
 rw [hdg]
 go_wp2_with fail
 refine (number_any hs hp2 hS.rd (HV.out.mv hS.mv hvb) hvb).mono ?_; intro e w5 ht
 rw [HEE.out] at ht
 cases E with
 | error x =>
  obtain ⟨q, n⟩ := x
  obtain ⟨rfl, hm⟩ := ht
  go_wp2
  exact ⟨rfl, rfl, hS.mv.trans hm⟩
 | ok y =>
  obtain ⟨t, n⟩ := y
  obtain ⟨rfl, hr5, hm5⟩ := ht
  have hS := hS.call hbl hr5 hm5
  clear hr5 hm5
  unfold tokV
  have e0 := hS.t0.c0
  have e1 := hS.t0.c1
  have e2 := hS.t0.c2
  have e3 := hS.t0.c3
  have ef := hS.t0.fz
  go_wp2_with fail
  refine bodyPost_ret (v := .agg #[.int .i64 (t.kind : Int), .string ⟨t.word.toArray⟩, .int .i64 t.num, .int .i64 ((p + t.at_ : Nat) : Int)]) (by simp [results, Tryz.results96, go_sem, e0, e1, e2, e3]) rfl ?_
  obtain ⟨f1, f2⟩ := fin4 hS.rd hS.mv hbl (.int .i64 (t.kind : Int)) (.string ⟨t.word.toArray⟩) (.int .i64 t.num) (.int .i64 ((p + t.at_ : Nat) : Int))
  exact ⟨rfl, f1, f2⟩
end Lx
end Go.Proofs.YtmmgfifpjifjnaaGreatDoor
namespace Go.Proofs.YtmmgfifpjifjnaaGreatDoor
open Go.RowKit
namespace Lx
variable {b at_ k p : Nat} {s : ByteArray} {w : World}
set_option maxRecDepth 100000 in
set_option maxHeartbeats 1600000 in
theorem next_assign (hs : s.size ≤ 140737488351232) (hat : at_ ≤ s.size) (hrd : Rd RT b s at_ w) (hk : sk none 0 (s.data.toList.drop at_) = .ok k) (hp : at_ + k = p) (hp2 : p ≤ s.size) {c : UInt8} (hc : hd (s.data.toList.drop p) 0 = c) (hcv : c = 58) (h1 : hd (s.data.toList.drop (p + 1)) 0 = 61) :
  Calls Tryz.prog 96 #[.pointer (some ⟨b, 0, none⟩)] w (Toked b s p (tokR (s.data.toList.drop p)) w) := by
 have hl : letter c = false := by rw [hcv]; rfl
 have hdg : digit c = false := by rw [hcv]; rfl
 have hc0 : c ≠ 0 := by rw [hcv]; decide
 have hlt : p < s.size := hd_in hc hc0
 have hge : decide (s.size ≤ p) = false := by simpa using hlt
 have hge2 : ¬ s.size ≤ p := by omega
 have hr : s.data.toList.drop p = c :: s.data.toList.drop (p + 1) := by rw [drop_cons s p hlt, show s[p] = c from (hd_drop s p 0 hlt).symm.trans hc]
 have hE : tokR (s.data.toList.drop p) = .ok (⟨7, [], 0, 0⟩, 2) := by
  have h2 : tokR (s.data.toList.drop p) = if hd (s.data.toList.drop (p + 1)) 0 = 61 then .ok (⟨7, [], 0, 0⟩, 2) else .ok (⟨16, [], 0, 0⟩, 1) := by rw [hr, hcv]; rfl
  rw [h2]; exact if_pos h1
 have hsum : IntKind.i64.wrap ((p : Int) + 1) = (p : Int) + 1 := IntWalk.i64_in _ (by omega)
 obtain ⟨d, hd'⟩ : ∃ d, hd (s.data.toList.drop (p + 1)) 0 = d := ⟨_, rfl⟩
 rw [hd'] at h1
 have n61 : ((d.toNat : Int) == 61) = true := by rw [h1]; rfl
 have hsum2 : IntKind.i64.wrap ((p : Int) + 1 + 1) = (p : Int) + 1 + 1 := by
  have : p + 1 < s.size := hd_in hd' (by rw [h1]; decide)
  exact IntWalk.i64_in _ (by omega)
 have n36 : ((c.toNat : Int) == 36) = false := by rw [hcv]; rfl
 have n39 : ((c.toNat : Int) == 39) = false := by rw [hcv]; rfl
 have n35 : ((c.toNat : Int) == 35) = false := by rw [hcv]; rfl
 have n58 : ((c.toNat : Int) == 58) = true := by rw [hcv]; rfl
 clear hcv hr h1
 rw [hE]
 have hbl := hrd.lt
 go_enter Tryz.func96, Tryz.ntmps96
 go_wp2_with fail
 have hr0 := hrd.alloc (Obj.cells #[.int .i64 0, .string ⟨#[]⟩, .int .i64 0, .int .i64 0] TT)
 have hm0 := (Mv.refl b w).alloc (Obj.cells #[.int .i64 0, .string ⟨#[]⟩, .int .i64 0, .int .i64 0] TT)
 have ht0 : Tk TT w.heap.size 0 ⟨#[]⟩ 0 0 (w.alloc (Obj.cells #[.int .i64 0, .string ⟨#[]⟩, .int .i64 0, .int .i64 0] TT)) := Tk.made w
 have hz0 : w.heap.size < (w.alloc (Obj.cells #[.int .i64 0, .string ⟨#[]⟩, .int .i64 0, .int .i64 0] TT)).heap.size := by simp
 obtain ⟨W0, hW⟩ : ∃ W0, w.alloc (Obj.cells #[.int .i64 0, .string ⟨#[]⟩, .int .i64 0, .int .i64 0] TT) = W0 := ⟨_, rfl⟩
 rw [hW] at hr0 hm0 ht0 hz0 ⊢
 clear hW
 refine (skip_any hs hat hr0).mono ?_; intro e w1 hsk
 rw [hk] at hsk
 obtain ⟨rfl, hr1, hm1⟩ := hsk
 rw [hp] at hr1
 have ht1 := ht0.mv hm1 (by omega)
 have hz1 : w.heap.size < w1.heap.size := Nat.lt_of_lt_of_le hz0 hm1.size
 have hm1 := hm0.trans hm1
 clear hr0 hm0 ht0 hz0
 have c1 := hr1.c1
 go_wp2_with fail
 have hS : Sn b s p w1.heap.size 0 (p : Int) ⟨#[]⟩ 0 w (w1.alloc (Obj.cells #[.int .i64 0, .string ⟨#[]⟩, .int .i64 0, .int .i64 (p : Int)] TT)) := ⟨hr1.alloc _, hm1.alloc _, ht1.alloc _, Tk.made w1, hz1⟩
 clear hr1 hm1 ht1 c1 hz1
 obtain ⟨W, hW⟩ : ∃ W, w1.alloc (Obj.cells #[.int .i64 0, .string ⟨#[]⟩, .int .i64 0, .int .i64 (p : Int)] TT) = W := ⟨_, rfl⟩
 rw [hW] at hS ⊢
 clear hW
 obtain ⟨K, hK⟩ : ∃ K, w1.heap.size = K := ⟨_, rfl⟩
 rw [hK] at hS ⊢
 clear hK
 have hKb : ¬ K = b := by have := hS.lt; omega
 have hbK : ¬ b = K := by omega
 have hKw : ¬ K = w.heap.size := by have := hS.lt; omega
 have hwK : ¬ w.heap.size = K := by omega
 have hwb : ¬ w.heap.size = b := by omega
 have hbw : ¬ b = w.heap.size := by omega
 refine (peekR0 hs hp2 hS.rd).mono ?_; rintro e w2 ⟨rfl, n1, hw⟩
 have hS : Sn b s p K 0 (p : Int) ⟨#[]⟩ 0 w w2 := by rw [hw]; exact hS.drewN _
 clear hw
 rw [hc]
 have c0 := hS.rd.c0
 have c1 := hS.rd.c1
 go_wp2_with fail
 go_quiet (fail)
 have hS := hS.drewN nq
 obtain ⟨W3, hW⟩ : ∃ W', w2.drewN nq = W' := ⟨_, rfl⟩
 rw [hW] at hS ⊢
 clear hW
 clear c0 c1
 go_wp2_with fail
 refine (letter_any c _).mono ?_; rintro e w' ⟨rfl, rfl⟩
 rw [hl]
 go_wp2_with fail
 refine (digit_any c _).mono ?_; rintro e w' ⟨rfl, rfl⟩
 rw [hdg]
 have c1 := hS.rd.c1
 have df := hS.rd.fz
 have g0 := hS.t1.c0
 have g1 := hS.t1.c1
 have g2 := hS.t1.c2
 have g3 := hS.t1.c3
 have gf := hS.t1.fz
 go_wp2_with fail
 have hS := (hS.move hbl (p + 1)).set0 hbl 16
 rw [show ((p + 1 : Nat) : Int) = (p : Int) + 1 by omega] at hS
 obtain ⟨W4, hW⟩ : ∃ W', (W3.setCell ⟨b, 1, none⟩ (.int .i64 ((p : Int) + 1))).setCell ⟨K, 0, none⟩ (.int .i64 16) = W' := ⟨_, rfl⟩
 rw [hW] at hS ⊢
 clear hW
 clear g0 g1 g2 g3 gf
 clear c1 df
 refine (peekR0 hs (by omega) hS.rd).mono ?_; rintro e w5 ⟨rfl, n2, hw⟩
 have hS : Sn b s (p + 1) K 16 (p : Int) ⟨#[]⟩ 0 w w5 := by rw [hw]; exact hS.drewN _
 clear hw
 rw [hd']
 have c1 := hS.rd.c1
 rw [show ((p + 1 : Nat) : Int) = (p : Int) + 1 by omega] at c1
 have df := hS.rd.fz
 have g0 := hS.t1.c0
 have g1 := hS.t1.c1
 have g2 := hS.t1.c2
 have g3 := hS.t1.c3
 have gf := hS.t1.fz
 have e0 := hS.t0.c0
 have e1 := hS.t0.c1
 have e2 := hS.t0.c2
 have e3 := hS.t0.c3
 have ef := hS.t0.fz
 go_wp2_with fail
 have hS := (hS.move hbl (p + 2)).set0 hbl 7
 rw [show ((p + 2 : Nat) : Int) = (p : Int) + 1 + 1 by omega] at hS
 refine bodyPost_ret (v := .agg #[.int .i64 7, .string ⟨#[]⟩, .int .i64 0, .int .i64 (p : Int)]) (by simp [results, Tryz.results96, go_sem, e0, e1, e2, e3]) rfl ?_
 obtain ⟨f1, f2⟩ := fin4 hS.rd hS.mv hbl (.int .i64 7) (.string ⟨#[]⟩) (.int .i64 0) (.int .i64 (p : Int))
 exact ⟨rfl, f1, f2⟩
set_option maxRecDepth 100000 in
set_option maxHeartbeats 1600000 in
theorem next_colon (hs : s.size ≤ 140737488351232) (hat : at_ ≤ s.size) (hrd : Rd RT b s at_ w) (hk : sk none 0 (s.data.toList.drop at_) = .ok k) (hp : at_ + k = p) (hp2 : p ≤ s.size) {c : UInt8} (hc : hd (s.data.toList.drop p) 0 = c) (hcv : c = 58) (h1 : hd (s.data.toList.drop (p + 1)) 0 ≠ 61) :
  Calls Tryz.prog 96 #[.pointer (some ⟨b, 0, none⟩)] w (Toked b s p (tokR (s.data.toList.drop p)) w) := by
 have hl : letter c = false := by rw [hcv]; rfl
 have hdg : digit c = false := by rw [hcv]; rfl
 have hc0 : c ≠ 0 := by rw [hcv]; decide
 have hlt : p < s.size := hd_in hc hc0
 have hge : decide (s.size ≤ p) = false := by simpa using hlt
 have hge2 : ¬ s.size ≤ p := by omega
 have hr : s.data.toList.drop p = c :: s.data.toList.drop (p + 1) := by rw [drop_cons s p hlt, show s[p] = c from (hd_drop s p 0 hlt).symm.trans hc]
 have hE : tokR (s.data.toList.drop p) = .ok (⟨16, [], 0, 0⟩, 1) := by
  have h2 : tokR (s.data.toList.drop p) = if hd (s.data.toList.drop (p + 1)) 0 = 61 then .ok (⟨7, [], 0, 0⟩, 2) else .ok (⟨16, [], 0, 0⟩, 1) := by rw [hr, hcv]; rfl
  rw [h2]; exact if_neg h1
 have hsum : IntKind.i64.wrap ((p : Int) + 1) = (p : Int) + 1 := IntWalk.i64_in _ (by omega)
 obtain ⟨d, hd'⟩ : ∃ d, hd (s.data.toList.drop (p + 1)) 0 = d := ⟨_, rfl⟩
 rw [hd'] at h1
 have n61 : ((d.toNat : Int) == 61) = false := bne_u8 d 61 (by omega) h1
 have n36 : ((c.toNat : Int) == 36) = false := by rw [hcv]; rfl
 have n39 : ((c.toNat : Int) == 39) = false := by rw [hcv]; rfl
 have n35 : ((c.toNat : Int) == 35) = false := by rw [hcv]; rfl
 have n58 : ((c.toNat : Int) == 58) = true := by rw [hcv]; rfl
 clear hcv hr h1
 rw [hE]
 have hbl := hrd.lt
 go_enter Tryz.func96, Tryz.ntmps96
 go_wp2_with fail
 have hr0 := hrd.alloc (Obj.cells #[.int .i64 0, .string ⟨#[]⟩, .int .i64 0, .int .i64 0] TT)
 have hm0 := (Mv.refl b w).alloc (Obj.cells #[.int .i64 0, .string ⟨#[]⟩, .int .i64 0, .int .i64 0] TT)
 have ht0 : Tk TT w.heap.size 0 ⟨#[]⟩ 0 0 (w.alloc (Obj.cells #[.int .i64 0, .string ⟨#[]⟩, .int .i64 0, .int .i64 0] TT)) := Tk.made w
 have hz0 : w.heap.size < (w.alloc (Obj.cells #[.int .i64 0, .string ⟨#[]⟩, .int .i64 0, .int .i64 0] TT)).heap.size := by simp
 obtain ⟨W0, hW⟩ : ∃ W0, w.alloc (Obj.cells #[.int .i64 0, .string ⟨#[]⟩, .int .i64 0, .int .i64 0] TT) = W0 := ⟨_, rfl⟩
 rw [hW] at hr0 hm0 ht0 hz0 ⊢
 clear hW
 refine (skip_any hs hat hr0).mono ?_; intro e w1 hsk
 rw [hk] at hsk
 obtain ⟨rfl, hr1, hm1⟩ := hsk
 rw [hp] at hr1
 have ht1 := ht0.mv hm1 (by omega)
 have hz1 : w.heap.size < w1.heap.size := Nat.lt_of_lt_of_le hz0 hm1.size
 have hm1 := hm0.trans hm1
 clear hr0 hm0 ht0 hz0
 have c1 := hr1.c1
 go_wp2_with fail
 have hS : Sn b s p w1.heap.size 0 (p : Int) ⟨#[]⟩ 0 w (w1.alloc (Obj.cells #[.int .i64 0, .string ⟨#[]⟩, .int .i64 0, .int .i64 (p : Int)] TT)) := ⟨hr1.alloc _, hm1.alloc _, ht1.alloc _, Tk.made w1, hz1⟩
 clear hr1 hm1 ht1 c1 hz1
 obtain ⟨W, hW⟩ : ∃ W, w1.alloc (Obj.cells #[.int .i64 0, .string ⟨#[]⟩, .int .i64 0, .int .i64 (p : Int)] TT) = W := ⟨_, rfl⟩
 rw [hW] at hS ⊢
 clear hW
 obtain ⟨K, hK⟩ : ∃ K, w1.heap.size = K := ⟨_, rfl⟩
 rw [hK] at hS ⊢
 clear hK
 have hKb : ¬ K = b := by have := hS.lt; omega
 have hbK : ¬ b = K := by omega
 have hKw : ¬ K = w.heap.size := by have := hS.lt; omega
 have hwK : ¬ w.heap.size = K := by omega
 have hwb : ¬ w.heap.size = b := by omega
 have hbw : ¬ b = w.heap.size := by omega
 refine (peekR0 hs hp2 hS.rd).mono ?_; rintro e w2 ⟨rfl, n1, hw⟩
 have hS : Sn b s p K 0 (p : Int) ⟨#[]⟩ 0 w w2 := by rw [hw]; exact hS.drewN _
 clear hw
 rw [hc]
 have c0 := hS.rd.c0
 have c1 := hS.rd.c1
 go_wp2_with fail
 go_quiet (fail)
 have hS := hS.drewN nq
 obtain ⟨W3, hW⟩ : ∃ W', w2.drewN nq = W' := ⟨_, rfl⟩
 rw [hW] at hS ⊢
 clear hW
 clear c0 c1
 go_wp2_with fail
 refine (letter_any c _).mono ?_; rintro e w' ⟨rfl, rfl⟩
 rw [hl]
 go_wp2_with fail
 refine (digit_any c _).mono ?_; rintro e w' ⟨rfl, rfl⟩
 rw [hdg]
 have c1 := hS.rd.c1
 have df := hS.rd.fz
 have g0 := hS.t1.c0
 have g1 := hS.t1.c1
 have g2 := hS.t1.c2
 have g3 := hS.t1.c3
 have gf := hS.t1.fz
 go_wp2_with fail
 have hS := (hS.move hbl (p + 1)).set0 hbl 16
 rw [show ((p + 1 : Nat) : Int) = (p : Int) + 1 by omega] at hS
 obtain ⟨W4, hW⟩ : ∃ W', (W3.setCell ⟨b, 1, none⟩ (.int .i64 ((p : Int) + 1))).setCell ⟨K, 0, none⟩ (.int .i64 16) = W' := ⟨_, rfl⟩
 rw [hW] at hS ⊢
 clear hW
 clear g0 g1 g2 g3 gf
 clear c1 df
 refine (peekR0 hs (by omega) hS.rd).mono ?_; rintro e w5 ⟨rfl, n2, hw⟩
 have hS : Sn b s (p + 1) K 16 (p : Int) ⟨#[]⟩ 0 w w5 := by rw [hw]; exact hS.drewN _
 clear hw
 rw [hd']
 have e0 := hS.t0.c0
 have e1 := hS.t0.c1
 have e2 := hS.t0.c2
 have e3 := hS.t0.c3
 have ef := hS.t0.fz
 have g0 := hS.t1.c0
 have g1 := hS.t1.c1
 have g2 := hS.t1.c2
 have g3 := hS.t1.c3
 have gf := hS.t1.fz
 go_wp2_with fail
 refine bodyPost_ret (v := .agg #[.int .i64 16, .string ⟨#[]⟩, .int .i64 0, .int .i64 (p : Int)]) (by simp [results, Tryz.results96, go_sem, e0, e1, e2, e3]) rfl ?_
 obtain ⟨f1, f2⟩ := fin4 hS.rd hS.mv hbl (.int .i64 16) (.string ⟨#[]⟩) (.int .i64 0) (.int .i64 (p : Int))
 exact ⟨rfl, f1, f2⟩
end Lx
end Go.Proofs.YtmmgfifpjifjnaaGreatDoor
namespace Go.Proofs.YtmmgfifpjifjnaaGreatDoor
open Go.RowKit
namespace Lx
variable {b at_ k p : Nat} {s : ByteArray} {w : World}
theorem tok_rest {r : Bytes} {c : UInt8} (hc : hd r 0 = c) (hr : r ≠ []) (hl : letter c = false) (hdg : digit c = false) (h36 : c ≠ 36) (h39 : c ≠ 39) (h35 : c ≠ 35) (h58 : c ≠ 58) :
  tokR r = match sgl c with
  | some i => .ok (⟨8 + i, [], 0, 0⟩, 1)
  | none => if operL r = 0 then .error (0, 3) else .ok (⟨6, r.take (operL r), 0, 0⟩, operL r) := by
 cases r with
 | nil => exact absurd rfl hr
 | cons d t =>
  obtain rfl : d = c := hc
  show tokC d t = _
  unfold tokC
  rw [hl, hdg, if_neg h36, if_neg h39, if_neg h35, if_neg h58]
  rfl
set_option maxRecDepth 100000 in
set_option maxHeartbeats 1600000 in
theorem next_mark (hs : s.size ≤ 140737488351232) (hat : at_ ≤ s.size) (hrd : Rd RT b s at_ w) (hk : sk none 0 (s.data.toList.drop at_) = .ok k) (hp : at_ + k = p) (hp2 : p ≤ s.size) {c : UInt8} (hc : hd (s.data.toList.drop p) 0 = c) (hc0 : c ≠ 0) (hl : letter c = false) (hdg : digit c = false) (h36 : c ≠ 36) (h39 : c ≠ 39) (h35 : c ≠ 35) (h58 : c ≠ 58) {i : Nat} (hi : sgl c = some i) :
  Calls Tryz.prog 96 #[.pointer (some ⟨b, 0, none⟩)] w (Toked b s p (tokR (s.data.toList.drop p)) w) := by
 have hlt : p < s.size := hd_in hc hc0
 have hge : decide (s.size ≤ p) = false := by simpa using hlt
 have hge2 : ¬ s.size ≤ p := by omega
 have hne : s.data.toList.drop p ≠ [] := by
  rw [drop_cons s p hlt]; simp
 have hE0 := tok_rest hc hne hl hdg h36 h39 h35 h58
 rw [hi] at hE0
 obtain ⟨hix, hi6⟩ := (sgl_idx c).1 i hi
 have hE : tokR (s.data.toList.drop p) = .ok (⟨8 + i, [], 0, 0⟩, 1) := hE0
 have HI : ∀ v : World, Calls Tryz.prog 140 #[.string ⟨#[94, 46, 59, 40, 41, 91, 93]⟩, .int .u8 (c.toNat : Int)] v fun e w' => e = .returned (.int .i64 (i : Int)) ∧ w' = v := fun v => by
  have := Tryz.strings_IndexByte ⟨#[94, 46, 59, 40, 41, 91, 93]⟩ (c.toNat : Int) v
  rw [u8_back, show (⟨#[94, 46, 59, 40, 41, 91, 93]⟩ : ByteArray).data.toList = singleL from rfl, hix] at this
  exact this
 have HI := Lib.hid HI
 have n36 : ((c.toNat : Int) == 36) = false := bne_u8 c 36 (by omega) h36
 have n39 : ((c.toNat : Int) == 39) = false := bne_u8 c 39 (by omega) h39
 have n35 : ((c.toNat : Int) == 35) = false := bne_u8 c 35 (by omega) h35
 have n58 : ((c.toNat : Int) == 58) = false := bne_u8 c 58 (by omega) h58
 have hi0 : (0 : Int) ≤ (i : Int) := by omega
 have hsum : IntKind.i64.wrap ((p : Int) + 1) = (p : Int) + 1 := IntWalk.i64_in _ (by omega)
 have hsum2 : IntKind.i64.wrap (8 + (i : Int)) = 8 + (i : Int) := IntWalk.i64_in _ (by omega)
 clear hE0 h36 h39 h35 h58 hix hi hne
 rw [hE]
 have hbl := hrd.lt
 go_enter Tryz.func96, Tryz.ntmps96
 go_wp2_with fail
 have hr0 := hrd.alloc (Obj.cells #[.int .i64 0, .string ⟨#[]⟩, .int .i64 0, .int .i64 0] TT)
 have hm0 := (Mv.refl b w).alloc (Obj.cells #[.int .i64 0, .string ⟨#[]⟩, .int .i64 0, .int .i64 0] TT)
 have ht0 : Tk TT w.heap.size 0 ⟨#[]⟩ 0 0 (w.alloc (Obj.cells #[.int .i64 0, .string ⟨#[]⟩, .int .i64 0, .int .i64 0] TT)) := Tk.made w
 have hz0 : w.heap.size < (w.alloc (Obj.cells #[.int .i64 0, .string ⟨#[]⟩, .int .i64 0, .int .i64 0] TT)).heap.size := by simp
 obtain ⟨W0, hW⟩ : ∃ W0, w.alloc (Obj.cells #[.int .i64 0, .string ⟨#[]⟩, .int .i64 0, .int .i64 0] TT) = W0 := ⟨_, rfl⟩
 rw [hW] at hr0 hm0 ht0 hz0 ⊢
 clear hW
 refine (skip_any hs hat hr0).mono ?_; intro e w1 hsk
 rw [hk] at hsk
 obtain ⟨rfl, hr1, hm1⟩ := hsk
 rw [hp] at hr1
 have ht1 := ht0.mv hm1 (by omega)
 have hz1 : w.heap.size < w1.heap.size := Nat.lt_of_lt_of_le hz0 hm1.size
 have hm1 := hm0.trans hm1
 clear hr0 hm0 ht0 hz0
 have c1 := hr1.c1
 go_wp2_with fail
 have hS : Sn b s p w1.heap.size 0 (p : Int) ⟨#[]⟩ 0 w (w1.alloc (Obj.cells #[.int .i64 0, .string ⟨#[]⟩, .int .i64 0, .int .i64 (p : Int)] TT)) := ⟨hr1.alloc _, hm1.alloc _, ht1.alloc _, Tk.made w1, hz1⟩
 clear hr1 hm1 ht1 c1 hz1
 obtain ⟨W, hW⟩ : ∃ W, w1.alloc (Obj.cells #[.int .i64 0, .string ⟨#[]⟩, .int .i64 0, .int .i64 (p : Int)] TT) = W := ⟨_, rfl⟩
 rw [hW] at hS ⊢
 clear hW
 obtain ⟨K, hK⟩ : ∃ K, w1.heap.size = K := ⟨_, rfl⟩
 rw [hK] at hS ⊢
 clear hK
 have hKb : ¬ K = b := by have := hS.lt; omega
 have hbK : ¬ b = K := by omega
 have hKw : ¬ K = w.heap.size := by have := hS.lt; omega
 have hwK : ¬ w.heap.size = K := by omega
 have hwb : ¬ w.heap.size = b := by omega
 have hbw : ¬ b = w.heap.size := by omega
 refine (peekR0 hs hp2 hS.rd).mono ?_; rintro e w2 ⟨rfl, n1, hw⟩
 have hS : Sn b s p K 0 (p : Int) ⟨#[]⟩ 0 w w2 := by rw [hw]; exact hS.drewN _
 clear hw
 rw [hc]
 have c0 := hS.rd.c0
 have c1 := hS.rd.c1
 go_wp2_with fail
 go_quiet (fail)
 have hS := hS.drewN nq
 obtain ⟨W3, hW⟩ : ∃ W', w2.drewN nq = W' := ⟨_, rfl⟩
 rw [hW] at hS ⊢
 clear hW
 clear c0 c1
 go_wp2_with fail
 refine (letter_any c _).mono ?_; rintro e w' ⟨rfl, rfl⟩
 rw [hl]
 go_wp2_with fail
 refine (digit_any c _).mono ?_; rintro e w' ⟨rfl, rfl⟩
 rw [hdg]
 go_wp2_with fail
 refine (HI.out _).mono ?_; rintro e w4 ⟨rfl, rfl⟩
 have c1 := hS.rd.c1
 have df := hS.rd.fz
 have g0 := hS.t1.c0
 have g1 := hS.t1.c1
 have g2 := hS.t1.c2
 have g3 := hS.t1.c3
 have gf := hS.t1.fz
 have e0 := hS.t0.c0
 have e1 := hS.t0.c1
 have e2 := hS.t0.c2
 have e3 := hS.t0.c3
 have ef := hS.t0.fz
 go_wp2_with fail
 have hS := (hS.move hbl (p + 1)).set0 hbl (8 + (i : Int))
 rw [show ((p + 1 : Nat) : Int) = (p : Int) + 1 by omega] at hS
 refine bodyPost_ret (v := .agg #[.int .i64 (8 + (i : Int)), .string ⟨#[]⟩, .int .i64 0, .int .i64 (p : Int)]) (by simp [results, Tryz.results96, go_sem, e0, e1, e2, e3]) rfl ?_
 obtain ⟨f1, f2⟩ := fin4 hS.rd hS.mv hbl (.int .i64 (8 + (i : Int))) (.string ⟨#[]⟩) (.int .i64 0) (.int .i64 (p : Int))
 exact ⟨ret1 (by simp [tokV]), f1, f2⟩
end Lx
end Go.Proofs.YtmmgfifpjifjnaaGreatDoor
namespace Go.Proofs.YtmmgfifpjifjnaaGreatDoor
open Go.RowKit
namespace Lx
variable {b at_ k p : Nat} {s : ByteArray} {w : World}
theorem tok_restO {r : Bytes} {c : UInt8} (hc : hd r 0 = c) (hr : r ≠ []) (hl : letter c = false) (hdg : digit c = false) (h36 : c ≠ 36) (h39 : c ≠ 39) (h35 : c ≠ 35) (h58 : c ≠ 58) :
  tokR r = match sgl c with
  | some i => .ok (⟨8 + i, [], 0, 0⟩, 1)
  | none => if operL r = 0 then .error (0, 3) else .ok (⟨6, r.take (operL r), 0, 0⟩, operL r) := by
 cases r with
 | nil => exact absurd rfl hr
 | cons d t =>
  obtain rfl : d = c := hc
  show tokC d t = _
  unfold tokC
  rw [hl, hdg, if_neg h36, if_neg h39, if_neg h35, if_neg h58]
  rfl
set_option maxRecDepth 100000 in
set_option maxHeartbeats 1600000 in
theorem next_oper (hs : s.size ≤ 140737488351232) (hat : at_ ≤ s.size) (hrd : Rd RT b s at_ w) (hk : sk none 0 (s.data.toList.drop at_) = .ok k) (hp : at_ + k = p) (hp2 : p ≤ s.size) {c : UInt8} (hc : hd (s.data.toList.drop p) 0 = c) (hlt : p < s.size) (hl : letter c = false) (hdg : digit c = false) (h36 : c ≠ 36) (h39 : c ≠ 39) (h35 : c ≠ 35) (h58 : c ≠ 58) (hi : sgl c = none) :
  Calls Tryz.prog 96 #[.pointer (some ⟨b, 0, none⟩)] w (Toked b s p (tokR (s.data.toList.drop p)) w) := by
 have hge : decide (s.size ≤ p) = false := by simpa using hlt
 have hge2 : ¬ s.size ≤ p := by omega
 have hne : s.data.toList.drop p ≠ [] := by
  rw [drop_cons s p hlt]; simp
 have hE0 := tok_restO hc hne hl hdg h36 h39 h35 h58
 rw [hi] at hE0
 simp only at hE0
 have hix := (sgl_idx c).2 hi
 have HI : ∀ v : World, Calls Tryz.prog 140 #[.string ⟨#[94, 46, 59, 40, 41, 91, 93]⟩, .int .u8 (c.toNat : Int)] v fun e w' => e = .returned (.int .i64 (-1)) ∧ w' = v := fun v => by
  have := Tryz.strings_IndexByte ⟨#[94, 46, 59, 40, 41, 91, 93]⟩ (c.toNat : Int) v
  rw [u8_back, show (⟨#[94, 46, 59, 40, 41, 91, 93]⟩ : ByteArray).data.toList = singleL from rfl, hix] at this
  exact this
 have HI := Lib.hid HI
 have n36 : ((c.toNat : Int) == 36) = false := bne_u8 c 36 (by omega) h36
 have n39 : ((c.toNat : Int) == 39) = false := bne_u8 c 39 (by omega) h39
 have n35 : ((c.toNat : Int) == 35) = false := bne_u8 c 35 (by omega) h35
 have n58 : ((c.toNat : Int) == 58) = false := bne_u8 c 58 (by omega) h58
 have HO := fun (v : World) (hv : Rd RT b s p v) => oper_any hs hp2 hv
 have hkl := operL_le (s.data.toList.drop p)
 rw [dlen] at hkl
 obtain ⟨q, hqq⟩ : ∃ q, operL (s.data.toList.drop p) = q := ⟨_, rfl⟩
 rw [hqq] at HO hE0 hkl
 have hkl : p + q ≤ s.size := by omega
 clear hqq h36 h39 h35 h58 hix hi hne
 by_cases hq0 : q = 0
 · subst hq0
   have hE : tokR (s.data.toList.drop p) = .error (0, 3) := hE0
   have hy0 := ext_none s p
   rw [Nat.add_zero] at HO
   obtain ⟨x, hxx⟩ : ∃ x, s.extract p p = x := ⟨_, rfl⟩
   rw [hxx] at hy0 HO
   have hy1 : x.toList.isEmpty = true := by rw [hy0]; rfl
   have HO := Lib.hid HO
   clear hxx hE0
   rw [hE]
   have hbl := hrd.lt
   go_enter Tryz.func96, Tryz.ntmps96
   go_wp2_with fail
   have hr0 := hrd.alloc (Obj.cells #[.int .i64 0, .string ⟨#[]⟩, .int .i64 0, .int .i64 0] TT)
   have hm0 := (Mv.refl b w).alloc (Obj.cells #[.int .i64 0, .string ⟨#[]⟩, .int .i64 0, .int .i64 0] TT)
   have ht0 : Tk TT w.heap.size 0 ⟨#[]⟩ 0 0 (w.alloc (Obj.cells #[.int .i64 0, .string ⟨#[]⟩, .int .i64 0, .int .i64 0] TT)) := Tk.made w
   have hz0 : w.heap.size < (w.alloc (Obj.cells #[.int .i64 0, .string ⟨#[]⟩, .int .i64 0, .int .i64 0] TT)).heap.size := by simp
   obtain ⟨W0, hW⟩ : ∃ W0, w.alloc (Obj.cells #[.int .i64 0, .string ⟨#[]⟩, .int .i64 0, .int .i64 0] TT) = W0 := ⟨_, rfl⟩
   rw [hW] at hr0 hm0 ht0 hz0 ⊢
   clear hW
   refine (skip_any hs hat hr0).mono ?_; intro e w1 hsk
   rw [hk] at hsk
   obtain ⟨rfl, hr1, hm1⟩ := hsk
   rw [hp] at hr1
   have ht1 := ht0.mv hm1 (by omega)
   have hz1 : w.heap.size < w1.heap.size := Nat.lt_of_lt_of_le hz0 hm1.size
   have hm1 := hm0.trans hm1
   clear hr0 hm0 ht0 hz0
   have c1 := hr1.c1
   go_wp2_with fail
   have hS : Sn b s p w1.heap.size 0 (p : Int) ⟨#[]⟩ 0 w (w1.alloc (Obj.cells #[.int .i64 0, .string ⟨#[]⟩, .int .i64 0, .int .i64 (p : Int)] TT)) := ⟨hr1.alloc _, hm1.alloc _, ht1.alloc _, Tk.made w1, hz1⟩
   clear hr1 hm1 ht1 c1 hz1
   obtain ⟨W, hW⟩ : ∃ W, w1.alloc (Obj.cells #[.int .i64 0, .string ⟨#[]⟩, .int .i64 0, .int .i64 (p : Int)] TT) = W := ⟨_, rfl⟩
   rw [hW] at hS ⊢
   clear hW
   obtain ⟨K, hK⟩ : ∃ K, w1.heap.size = K := ⟨_, rfl⟩
   rw [hK] at hS ⊢
   clear hK
   have hKb : ¬ K = b := by have := hS.lt; omega
   have hbK : ¬ b = K := by omega
   have hKw : ¬ K = w.heap.size := by have := hS.lt; omega
   have hwK : ¬ w.heap.size = K := by omega
   have hwb : ¬ w.heap.size = b := by omega
   have hbw : ¬ b = w.heap.size := by omega
   refine (peekR0 hs hp2 hS.rd).mono ?_; rintro e w2 ⟨rfl, n1, hw⟩
   have hS : Sn b s p K 0 (p : Int) ⟨#[]⟩ 0 w w2 := by rw [hw]; exact hS.drewN _
   clear hw
   rw [hc]
   have c0 := hS.rd.c0
   have c1 := hS.rd.c1
   go_wp2_with fail
   go_quiet (fail)
   have hS := hS.drewN nq
   obtain ⟨W3, hW⟩ : ∃ W', w2.drewN nq = W' := ⟨_, rfl⟩
   rw [hW] at hS ⊢
   clear hW
   clear c0 c1
   go_wp2_with fail
   refine (letter_any c _).mono ?_; rintro e w' ⟨rfl, rfl⟩
   rw [hl]
   go_wp2_with fail
   refine (digit_any c _).mono ?_; rintro e w' ⟨rfl, rfl⟩
   rw [hdg]
   go_wp2_with fail
   refine (HI.out _).mono ?_; rintro e w4 ⟨rfl, rfl⟩
   go_wp2_with fail
   refine (HO.out _ hS.rd).mono ?_; rintro e w5 ⟨rfl, hr5, hm5⟩
   have hS := hS.call hbl hr5 hm5
   clear hr5 hm5
   have g0 := hS.t1.c0
   have g1 := hS.t1.c1
   have g2 := hS.t1.c2
   have g3 := hS.t1.c3
   have gf := hS.t1.fz
   go_wp2_with fail
   have hS := (hS.set0 hbl 6).set1 hbl x
   refine (stop_any (p : Int) 3 _).mono ?_; rintro e w' ⟨rfl, rfl⟩
   go_wp2
   exact ⟨rfl, rfl, hS.mv⟩
 have hE : tokR (s.data.toList.drop p) = .ok (⟨6, (s.data.toList.drop p).take q, 0, 0⟩, q) := hE0.trans (if_neg hq0)
 have hy0 := ext_some s p (p + q) (by omega) hkl
 obtain ⟨x, hx⟩ : ∃ x, s.extract p (p + q) = x := ⟨_, rfl⟩
 rw [hx] at hy0 HO
 have hy1 : x.toList.isEmpty = false := by cases hl : x.toList with | nil => exact absurd hl hy0 | cons _ _ => rfl
 have HO := Lib.hid HO
 have HX := Lib.hid hx
 clear hx hE0
 rw [hE]
 have hbl := hrd.lt
 go_enter Tryz.func96, Tryz.ntmps96
 go_wp2_with fail
 have hr0 := hrd.alloc (Obj.cells #[.int .i64 0, .string ⟨#[]⟩, .int .i64 0, .int .i64 0] TT)
 have hm0 := (Mv.refl b w).alloc (Obj.cells #[.int .i64 0, .string ⟨#[]⟩, .int .i64 0, .int .i64 0] TT)
 have ht0 : Tk TT w.heap.size 0 ⟨#[]⟩ 0 0 (w.alloc (Obj.cells #[.int .i64 0, .string ⟨#[]⟩, .int .i64 0, .int .i64 0] TT)) := Tk.made w
 have hz0 : w.heap.size < (w.alloc (Obj.cells #[.int .i64 0, .string ⟨#[]⟩, .int .i64 0, .int .i64 0] TT)).heap.size := by simp
 obtain ⟨W0, hW⟩ : ∃ W0, w.alloc (Obj.cells #[.int .i64 0, .string ⟨#[]⟩, .int .i64 0, .int .i64 0] TT) = W0 := ⟨_, rfl⟩
 rw [hW] at hr0 hm0 ht0 hz0 ⊢
 clear hW
 refine (skip_any hs hat hr0).mono ?_; intro e w1 hsk
 rw [hk] at hsk
 obtain ⟨rfl, hr1, hm1⟩ := hsk
 rw [hp] at hr1
 have ht1 := ht0.mv hm1 (by omega)
 have hz1 : w.heap.size < w1.heap.size := Nat.lt_of_lt_of_le hz0 hm1.size
 have hm1 := hm0.trans hm1
 clear hr0 hm0 ht0 hz0
 have c1 := hr1.c1
 go_wp2_with fail
 have hS : Sn b s p w1.heap.size 0 (p : Int) ⟨#[]⟩ 0 w (w1.alloc (Obj.cells #[.int .i64 0, .string ⟨#[]⟩, .int .i64 0, .int .i64 (p : Int)] TT)) := ⟨hr1.alloc _, hm1.alloc _, ht1.alloc _, Tk.made w1, hz1⟩
 clear hr1 hm1 ht1 c1 hz1
 obtain ⟨W, hW⟩ : ∃ W, w1.alloc (Obj.cells #[.int .i64 0, .string ⟨#[]⟩, .int .i64 0, .int .i64 (p : Int)] TT) = W := ⟨_, rfl⟩
 rw [hW] at hS ⊢
 clear hW
 obtain ⟨K, hK⟩ : ∃ K, w1.heap.size = K := ⟨_, rfl⟩
 rw [hK] at hS ⊢
 clear hK
 have hKb : ¬ K = b := by have := hS.lt; omega
 have hbK : ¬ b = K := by omega
 have hKw : ¬ K = w.heap.size := by have := hS.lt; omega
 have hwK : ¬ w.heap.size = K := by omega
 have hwb : ¬ w.heap.size = b := by omega
 have hbw : ¬ b = w.heap.size := by omega
 refine (peekR0 hs hp2 hS.rd).mono ?_; rintro e w2 ⟨rfl, n1, hw⟩
 have hS : Sn b s p K 0 (p : Int) ⟨#[]⟩ 0 w w2 := by rw [hw]; exact hS.drewN _
 clear hw
 rw [hc]
 have c0 := hS.rd.c0
 have c1 := hS.rd.c1
 go_wp2_with fail
 go_quiet (fail)
 have hS := hS.drewN nq
 obtain ⟨W3, hW⟩ : ∃ W', w2.drewN nq = W' := ⟨_, rfl⟩
 rw [hW] at hS ⊢
 clear hW
 clear c0 c1
 go_wp2_with fail
 refine (letter_any c _).mono ?_; rintro e w' ⟨rfl, rfl⟩
 rw [hl]
 go_wp2_with fail
 refine (digit_any c _).mono ?_; rintro e w' ⟨rfl, rfl⟩
 rw [hdg]
 go_wp2_with fail
 refine (HI.out _).mono ?_; rintro e w4 ⟨rfl, rfl⟩
 go_wp2_with fail
 refine (HO.out _ hS.rd).mono ?_; rintro e w5 ⟨rfl, hr5, hm5⟩
 have hS := hS.call hbl hr5 hm5
 clear hr5 hm5
 have g0 := hS.t1.c0
 have g1 := hS.t1.c1
 have g2 := hS.t1.c2
 have g3 := hS.t1.c3
 have gf := hS.t1.fz
 have e0 := hS.t0.c0
 have e1 := hS.t0.c1
 have e2 := hS.t0.c2
 have e3 := hS.t0.c3
 have ef := hS.t0.fz
 go_wp2_with fail
 have hS := (hS.set0 hbl 6).set1 hbl x
 refine bodyPost_ret (v := .agg #[.int .i64 6, .string x, .int .i64 0, .int .i64 (p : Int)]) (by simp [results, Tryz.results96, go_sem, e0, e1, e2, e3]) rfl ?_
 obtain ⟨f1, f2⟩ := fin4 hS.rd hS.mv hbl (.int .i64 6) (.string x) (.int .i64 0) (.int .i64 (p : Int))
 exact ⟨ret1 (by rw [← HX.out, ext_word _ _ _ hkl]; rfl), f1, f2⟩
end Lx
end Go.Proofs.YtmmgfifpjifjnaaGreatDoor
namespace Go.Proofs.YtmmgfifpjifjnaaGreatDoor
open Go.RowKit
namespace Lx
variable {b at_ k p : Nat} {s : ByteArray} {w : World}
def PlS (s : ByteArray) : Prop := ∀ c ∈ s.data.toList, c ≠ 36 ∧ c ≠ 39 ∧ c ≠ 35
theorem pls_hd {p : Nat} {c : UInt8} (h : PlS s) (hlt : p < s.size) (hc : hd (s.data.toList.drop p) 0 = c) : c ≠ 36 ∧ c ≠ 39 ∧ c ≠ 35 := by
 have hl : p < s.data.toList.length := hlt
 rw [List.drop_eq_getElem_cons hl] at hc
 have hc : s.data.toList[p] = c := hc
 exact h c (hc ▸ List.getElem_mem hl)
theorem next_tok (hps : PlS s) (hs : s.size ≤ 140737488351232) (hat : at_ ≤ s.size) (hrd : Rd RT b s at_ w) (hv : ErrVar w) (hvb : 2 ≠ b) (hk : sk none 0 (s.data.toList.drop at_) = .ok k) (hp : at_ + k = p) (hp2 : p ≤ s.size) :
  Calls Tryz.prog 96 #[.pointer (some ⟨b, 0, none⟩)] w (Toked b s p (tokR (s.data.toList.drop p)) w) := by
 rcases Nat.lt_or_ge p s.size with hlt | hge
 · obtain ⟨c, hc⟩ : ∃ c, hd (s.data.toList.drop p) 0 = c := ⟨_, rfl⟩
   cases hl : letter c
   · cases hdg : digit c
     · obtain ⟨h36, h39, h35⟩ := pls_hd hps hlt hc
       by_cases h58 : c = 58
       · by_cases h61 : hd (s.data.toList.drop (p + 1)) 0 = 61
         · exact next_assign hs hat hrd hk hp hp2 hc h58 h61
         exact next_colon hs hat hrd hk hp hp2 hc h58 h61
       cases hi : sgl c with
       | some i =>
        have h0 : c ≠ 0 := by intro h; rw [h, show sgl 0 = none by decide] at hi; cases hi
        exact next_mark hs hat hrd hk hp hp2 hc h0 hl hdg h36 h39 h35 h58 hi
       | none => exact next_oper hs hat hrd hk hp hp2 hc hlt hl hdg h36 h39 h35 h58 hi
     exact next_digit hs hat hrd hk hp hp2 hc hl hdg hv hvb
   cases hcol : colonB (s.data.toList.drop (p + nameL (s.data.toList.drop p)))
   · exact next_name hs hat hrd hk hp hp2 hc hl hcol
   exact next_keyword hs hat hrd hk hp hp2 hc hl hcol
 exact next_end hs hat hrd hk hp hp2 (by omega)
theorem next_any (hps : PlS s) (hs : s.size ≤ 140737488351232) (hat : at_ ≤ s.size) (hrd : Rd RT b s at_ w) (hv : ErrVar w) (hvb : 2 ≠ b) :
  Calls Tryz.prog 96 #[.pointer (some ⟨b, 0, none⟩)] w (Toked b s at_ (nextR (s.data.toList.drop at_)) w) := by
 unfold nextR
 cases hk : sk none 0 (s.data.toList.drop at_) with
 | error st => exact next_note hs hat hrd hk
 | ok k =>
  have hle := (sk_le _ _ _ _ hk).2
  rw [dlen] at hle
  have h := next_tok hps hs hat hrd hv hvb hk rfl (by omega)
  simp only [List.drop_drop]
  cases hE : tokR (s.data.toList.drop (at_ + k)) with
  | error x =>
   obtain ⟨q, n⟩ := x
   rw [hE] at h
   refine h.mono fun e w' hh => ?_
   show Fell b ((at_ + (k + q) : Nat) : Int) n w e w'
   rw [← Nat.add_assoc]; exact hh
  | ok y =>
   obtain ⟨t, n⟩ := y
   rw [hE] at h
   refine h.mono fun e w' hh => ?_
   show Turn RT b s (at_ + (k + n)) (tokV at_ { t with at_ := k + t.at_ }) w e w'
   have : tokV at_ { t with at_ := k + t.at_ } = tokV (at_ + k) t := by
    unfold tokV; simp only; rw [← Nat.add_assoc]
   rw [this, ← Nat.add_assoc]; exact hh
end Lx
end Go.Proofs.YtmmgfifpjifjnaaGreatDoor
namespace Go.Proofs.YtmmgfifpjifjnaaGreatDoor
open Go.RowKit
namespace Lx
def Nexted (a : Nat) (x : Except Err (Tok × Nat)) (w : World) (e : Ending) (w' : World) : Prop :=
 Below w.heap.size w w' ∧ match x with
 | .error (p, n) => e = .returned (.tuple #[tokV 0 ⟨0, [], 0, 0⟩, .int .i64 ((a + p : Nat) : Int), .int .i64 n])
 | .ok (t, n) => e = .returned (.tuple #[tokV a t, .int .i64 ((a + n : Nat) : Int), .int .i64 0])
theorem ErrVar_lt {w : World} (h : ErrVar w) : 2 < w.heap.size := by
 obtain ⟨tp, p, hv⟩ := h
 have hg : Tryz.prog.globalNamed "strconv.ErrRange" = some 2 := by kernel_rfl
 rcases Nat.lt_or_ge 2 w.heap.size with h | h
 · exact h
 exfalso
 unfold World.var? at hv
 simp only [hg, Option.bind_some, Array.getElem?_eq_none h] at hv
 cases hv
theorem One.made {T : Nat} {v : Value} (w : World) : One T w.heap.size v (w.alloc (.cells #[v] T)) := Go.Deep.blk_alloc_new w _
theorem Rd.made {T : Nat} {s : ByteArray} {a : Nat} (w : World) : Rd T w.heap.size s a (w.alloc (.cells #[.string s, .int .i64 (a : Int)] T)) := Go.Deep.blk_alloc_new w _
theorem One.mv {T k b : Nat} {v : Value} {w w' : World} (h : One T k v w) (hm : Mv b w w') (hb : k ≠ b) : One T k v w' := (hm.block k (lt_of_block h) hb).trans h
structure Nx (s : ByteArray) (z : Nat) (kd : Int) (wd : ByteArray) (n a : Int) (x y : Int) (w W : World) : Prop where
 rd : Rd RT (w.heap.size + 1 + 1 + 1) s z W
 t0 : Tk TT w.heap.size kd wd n a W
 o1 : One IT (w.heap.size + 1) (.int .i64 x) W
 o2 : One ET (w.heap.size + 1 + 1) (.int .i64 y) W
 be : Below w.heap.size w W
theorem Nx.made (s : ByteArray) (z : Nat) (w : World) : Nx s z 0 ⟨#[]⟩ 0 0 0 0 w ((((w.alloc (Obj.cells #[.int .i64 0, .string ⟨#[]⟩, .int .i64 0, .int .i64 0] TT)).alloc (Obj.cells #[.int .i64 0] IT)).alloc (Obj.cells #[.int .i64 0] ET)).alloc (Obj.cells #[.string s, .int .i64 (z : Int)] RT)) where
 rd := by have := Rd.made (T := RT) (s := s) (a := z) (((w.alloc (Obj.cells #[.int .i64 0, .string ⟨#[]⟩, .int .i64 0, .int .i64 0] TT)).alloc (Obj.cells #[.int .i64 0] IT)).alloc (Obj.cells #[.int .i64 0] ET)); simpa using this
 t0 := (((Tk.made w).alloc _).alloc _).alloc _
 o1 := by have := One.made (T := IT) (v := .int .i64 0) (w.alloc (Obj.cells #[.int .i64 0, .string ⟨#[]⟩, .int .i64 0, .int .i64 0] TT)); simpa using (this.alloc (Obj.cells #[.int .i64 0] ET)).alloc (Obj.cells #[.string s, .int .i64 (z : Int)] RT)
 o2 := by have := One.made (T := ET) (v := .int .i64 0) ((w.alloc (Obj.cells #[.int .i64 0, .string ⟨#[]⟩, .int .i64 0, .int .i64 0] TT)).alloc (Obj.cells #[.int .i64 0] IT)); simpa using this.alloc (Obj.cells #[.string s, .int .i64 (z : Int)] RT)
 be := (((((Below.refl _ w).alloc (Nat.le_refl _) _).alloc (by simp) _).alloc (by simp; omega) _).alloc (by simp; omega) _)
theorem Nx.call {s : ByteArray} {z z' : Nat} {kd n a x y : Int} {wd : ByteArray} {w W W' : World} (h : Nx s z kd wd n a x y w W) (hr : Rd RT (w.heap.size + 1 + 1 + 1) s z' W') (hm : Mv (w.heap.size + 1 + 1 + 1) W W') : Nx s z' kd wd n a x y w W' where
 rd := hr
 t0 := h.t0.mv hm (by omega)
 o1 := h.o1.mv hm (by omega)
 o2 := h.o2.mv hm (by omega)
 be := h.be.trans (hm.new_below (by omega) h.be.size)
theorem Nx.row {s : ByteArray} {z : Nat} {kd n a x y : Int} {wd : ByteArray} {w W : World} (h : Nx s z kd wd n a x y w W) (kd' n' a' : Int) (wd' : ByteArray) :
  Nx s z kd' wd' n' a' x y w ((((W.setCell ⟨w.heap.size, 0, none⟩ (.int .i64 kd')).setCell ⟨w.heap.size, 1, none⟩ (.string wd')).setCell ⟨w.heap.size, 2, none⟩ (.int .i64 n')).setCell ⟨w.heap.size, 3, none⟩ (.int .i64 a')) := by
 have n1 : w.heap.size + 1 + 1 + 1 ≠ w.heap.size := by omega
 have n2 : w.heap.size + 1 ≠ w.heap.size := by omega
 have n3 : w.heap.size + 1 + 1 ≠ w.heap.size := by omega
 exact ⟨(((h.rd.far n1 _).far n1 _).far n1 _).far n1 _, (((h.t0.set0 kd').set1 wd').set2 n').set3 a', (((h.o1.far n2 _).far n2 _).far n2 _).far n2 _, (((h.o2.far n3 _).far n3 _).far n3 _).far n3 _,
  (((h.be.setCell (p := ⟨w.heap.size, 0, none⟩) (Nat.le_refl _) _).setCell (p := ⟨w.heap.size, 1, none⟩) (Nat.le_refl _) _).setCell (p := ⟨w.heap.size, 2, none⟩) (Nat.le_refl _) _).setCell (p := ⟨w.heap.size, 3, none⟩) (Nat.le_refl _) _⟩
theorem Nx.ones {s : ByteArray} {z : Nat} {kd n a x y : Int} {wd : ByteArray} {w W : World} (h : Nx s z kd wd n a x y w W) (x' y' : Int) :
  Nx s z kd wd n a x' y' w ((W.setCell ⟨w.heap.size + 1, 0, none⟩ (.int .i64 x')).setCell ⟨w.heap.size + 1 + 1, 0, none⟩ (.int .i64 y')) :=
 ⟨(h.rd.far (show w.heap.size + 1 + 1 + 1 ≠ w.heap.size + 1 by omega) _).far (show w.heap.size + 1 + 1 + 1 ≠ w.heap.size + 1 + 1 by omega) _,
  (h.t0.far (show w.heap.size ≠ w.heap.size + 1 by omega) _).far (show w.heap.size ≠ w.heap.size + 1 + 1 by omega) _,
  (h.o1.set_ _).far (show w.heap.size + 1 ≠ w.heap.size + 1 + 1 by omega) _,
  (h.o2.far (show w.heap.size + 1 + 1 ≠ w.heap.size + 1 by omega) _).set_ _,
  (h.be.setCell (p := ⟨w.heap.size + 1, 0, none⟩) (show w.heap.size ≤ w.heap.size + 1 by omega) _).setCell (p := ⟨w.heap.size + 1 + 1, 0, none⟩) (show w.heap.size ≤ w.heap.size + 1 + 1 by omega) _⟩
theorem Nx.drew {s : ByteArray} {z : Nat} {kd n a x y : Int} {wd : ByteArray} {w W : World} (h : Nx s z kd wd n a x y w W) : Nx s z kd wd n a x y w W.drew := ⟨h.rd, h.t0, h.o1, h.o2, h.be.drew⟩
variable {s : ByteArray} {w : World}
set_option maxRecDepth 100000 in
set_option maxHeartbeats 1600000 in
theorem Next_any (s : ByteArray) (at_ : Int) (a : Nat) (w : World) (hps : PlS s) (hs : s.size ≤ 140737488351232) (ha : max 0 (min at_ (s.size : Int)) = (a : Int)) (hv : ErrVar w) :
  Calls Tryz.prog 60 #[.string s, .int .i64 at_] w (Nexted a (nextR (s.data.toList.drop a)) w) := by
 have hmf : ∀ (fn : Fn) (first cap : Array Value) (w : World), (Instr.makeFunc fn first cap).run Tryz.prog w = .ok (.func fn first cap) w := fun _ _ _ _ => rfl
 have has : a ≤ s.size := by omega
 obtain ⟨E, hE⟩ : ∃ E, nextR (s.data.toList.drop a) = E := ⟨_, rfl⟩
 have hvl : 2 < w.heap.size := ErrVar_lt hv
 have HV := Lib.hid hv; clear hv
 have HE := Lib.hid hE
 rw [hE]; clear hE
 go_enter_defers Tryz.func60, Tryz.ntmps60
 go_wp2_with fail
 have hN := Nx.made s a w
 obtain ⟨W, hW⟩ : ∃ W, ((((w.alloc (Obj.cells #[.int .i64 0, .string ⟨#[]⟩, .int .i64 0, .int .i64 0] TT)).alloc (Obj.cells #[.int .i64 0] IT)).alloc (Obj.cells #[.int .i64 0] ET)).alloc (Obj.cells #[.string s, .int .i64 (a : Int)] RT)) = W := ⟨_, rfl⟩
 rw [hW] at hN ⊢
 clear hW
 refine (next_any hps hs has hN.rd (HV.out.below hN.be) (by omega)).mono ?_; intro e w2 ht
 rw [HE.out] at ht
 cases E with
 | error x =>
  obtain ⟨p, n⟩ := x
  obtain ⟨rfl, hm⟩ := ht
  go_wp2_with fail
  refine leaves_cons (f := 94) (args := #[.pointer (some ⟨w.heap.size + 1, 0, none⟩), .pointer (some ⟨w.heap.size + 1 + 1, 0, none⟩), .pointer (some ⟨w.heap.size, 0, none⟩)]) (by simp) (by simp [go_sem]) ?_
  refine (catch_fault w.heap.size (w.heap.size + 1) (w.heap.size + 1 + 1) ((a + p : Nat) : Int) n 0 0 _ (hN.t0.mv hm (by omega)) (hN.o1.mv hm (by omega)) (hN.o2.mv hm (by omega)) (by omega) (by omega) (by omega)).mono ?_
  rintro e u' w3 ⟨rfl, rfl, h4, h5, h6, hb⟩
  have e0 := h4.c0
  have e1 := h4.c1
  have e2 := h4.c2
  have e3 := h4.c3
  have e5 := h5.c
  have e6 := h6.c
  have hbe := (hN.be.trans (hm.new_below (by omega) hN.be.size)).trans (hb w.heap.size (Nat.le_refl _) (by omega) (by omega) (Nat.le_trans hN.be.size hm.size))
  simp [Leaves, settle, results, Tryz.results60, go_sem, e0, e1, e2, e3, e5, e6]
  exact ⟨hbe, rfl⟩
 | ok y =>
  obtain ⟨t, n⟩ := y
  obtain ⟨rfl, hr2, hm⟩ := ht
  have hN := hN.call hr2 hm
  clear hr2 hm
  have hQ : ∀ W', Below w.heap.size w W' → Nexted a (.ok (t, n)) w (.returned (.tuple #[tokV a t, .int .i64 ((a + n : Nat) : Int), .int .i64 0])) W' := fun W' hb => ⟨hb, rfl⟩
  obtain ⟨kd, wd, nn, aa, hV⟩ : ∃ (kd : Int) (wd : ByteArray) (nn aa : Int), tokV a t = .agg #[.int .i64 kd, .string wd, .int .i64 nn, .int .i64 aa] := ⟨_, _, _, _, rfl⟩
  rw [hV] at hQ ⊢
  have HQ := Lib.hid hQ
  have e0 := hN.t0.c0
  have e1 := hN.t0.c1
  have e2 := hN.t0.c2
  have e3 := hN.t0.c3
  have ef := hN.t0.fz
  have hN := hN.row kd nn aa wd
  clear hQ hV HE
  go_wp2_with fail
  obtain ⟨W3, hW⟩ : ∃ W3, ((((w2.setCell ⟨w.heap.size, 0, none⟩ (.int .i64 kd)).setCell ⟨w.heap.size, 1, none⟩ (.string wd)).setCell ⟨w.heap.size, 2, none⟩ (.int .i64 nn)).setCell ⟨w.heap.size, 3, none⟩ (.int .i64 aa)) = W3 := ⟨_, rfl⟩
  rw [hW] at hN ⊢
  clear hW e0 e1 e2 e3 ef
  have e0 := hN.t0.c0
  have e1 := hN.t0.c1
  have e2 := hN.t0.c2
  have e3 := hN.t0.c3
  have ef := hN.t0.fz
  have d0 := hN.rd.c1
  have d1 := hN.o1.c
  have d2 := hN.o1.fz
  have d3 := hN.o2.c
  have d4 := hN.o2.fz
  have n1 : ¬ w.heap.size + 1 + 1 + 1 = w.heap.size := by omega
  have n2 : ¬ w.heap.size + 1 = w.heap.size := by omega
  have n3 : ¬ w.heap.size + 1 + 1 = w.heap.size := by omega
  have n4 : ¬ w.heap.size + 1 + 1 = w.heap.size + 1 := by omega
  obtain ⟨an, han⟩ : ∃ an : Int, ((a + n : Nat) : Int) = an := ⟨_, rfl⟩
  rw [han] at d0 HQ
  have hN := ((hN.row kd nn aa wd).ones an 0).drew
  go_region
  go_wp2
  clear e0 e1 e2 e3 ef d0 d1 d2 d3 d4
  refine leaves_cons (f := 94) (args := #[.pointer (some ⟨w.heap.size + 1, 0, none⟩), .pointer (some ⟨w.heap.size + 1 + 1, 0, none⟩), .pointer (some ⟨w.heap.size, 0, none⟩)]) (by simp) (by simp [go_sem]) ?_
  refine (catch_idle w.heap.size (w.heap.size + 1) (w.heap.size + 1 + 1) _).mono ?_
  rintro e u' w4 ⟨rfl, rfl, rfl⟩
  have e0 := hN.t0.c0
  have e1 := hN.t0.c1
  have e2 := hN.t0.c2
  have e3 := hN.t0.c3
  have d1 := hN.o1.c
  have d3 := hN.o2.c
  have hbe := hN.be
  obtain ⟨W4, hW⟩ : ∃ W4, (World.drew ((((((W3.setCell ⟨w.heap.size, 0, none⟩ (.int .i64 kd)).setCell ⟨w.heap.size, 1, none⟩ (.string wd)).setCell ⟨w.heap.size, 2, none⟩ (.int .i64 nn)).setCell ⟨w.heap.size, 3, none⟩ (.int .i64 aa)).setCell ⟨w.heap.size + 1, 0, none⟩ (.int .i64 an)).setCell ⟨w.heap.size + 1 + 1, 0, none⟩ (.int .i64 0))) = W4 := ⟨_, rfl⟩
  rw [hW] at e0 e1 e2 e3 d1 d3 hbe ⊢
  clear hW hN
  simp [Leaves, settle, results, Tryz.results60, go_sem, e0, e1, e2, e3, d1, d3]
  exact HQ.out _ hbe
end Lx
end Go.Proofs.YtmmgfifpjifjnaaGreatDoor
