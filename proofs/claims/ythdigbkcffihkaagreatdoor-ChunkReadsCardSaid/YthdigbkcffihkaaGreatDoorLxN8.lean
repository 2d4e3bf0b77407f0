/- Package lex, the walk, next: a colon (wip/gen/gen_next.py prints this). -/
import Derived.Test.YthdigbkcffihkaaGreatDoorLxN0
import Derived.StillTailTactics
import Derived.RegionTactic
set_option linter.unusedVariables false
namespace Go.Proofs.YthdigbkcffihkaaGreatDoor
open Go.RowKit
namespace Lx
variable {b at_ k p : Nat} {s : ByteArray} {w : World}
set_option maxRecDepth 100000 in
set_option maxHeartbeats 1600000 in
theorem next_assign (hs : s.size ≤ 140737488351232) (hat : at_ ≤ s.size) (hrd : Rd RT b s at_ w) (hk : sk none 0 (s.data.toList.drop at_) = .ok k) (hp : at_ + k = p) (hp2 : p ≤ s.size) {c : UInt8} (hc : hd (s.data.toList.drop p) 0 = c) (hcv : c = 58) (h1 : hd (s.data.toList.drop (p + 1)) 0 = 61) :
    Calls Tryz.prog 80 #[.pointer (some ⟨b, 0, none⟩)] w (Toked b s p (tokR (s.data.toList.drop p)) w) := by
  have hl : letter c = false := by rw [hcv]; rfl
  have hdg : digit c = false := by rw [hcv]; rfl
  have hc0 : c ≠ 0 := by rw [hcv]; decide
  have hlt : p < s.size := hd_in hc hc0
  have hge : decide (s.size ≤ p) = false := by simpa using hlt
  have hge2 : ¬ s.size ≤ p := by omega
  have hr : s.data.toList.drop p = c :: s.data.toList.drop (p + 1) := by rw [drop_cons s p hlt, show s[p] = c from (hd_drop s p 0 hlt).symm.trans hc]
  have hE : tokR (s.data.toList.drop p) = .ok (⟨7, [], 0, 0⟩, 2) := by
    have h2 : tokR (s.data.toList.drop p) = if hd (s.data.toList.drop (p + 1)) 0 = 61 then .ok (⟨7, [], 0, 0⟩, 2) else .ok (⟨16, [], 0, 0⟩, 1) := by rw [hr, hcv]; rfl
    rw [h2]; exact if_pos h1
  have hsum : IntKind.i64.wrap ((p : Int) + 1) = (p : Int) + 1 := IntWalk.i64_in _ (by omega)
  obtain ⟨d, hd'⟩ : ∃ d, hd (s.data.toList.drop (p + 1)) 0 = d := ⟨_, rfl⟩
  rw [hd'] at h1
  have n61 : ((d.toNat : Int) == 61) = true := by rw [h1]; rfl
  have hsum2 : IntKind.i64.wrap ((p : Int) + 1 + 1) = (p : Int) + 1 + 1 := by
    have : p + 1 < s.size := hd_in hd' (by rw [h1]; decide)
    exact IntWalk.i64_in _ (by omega)
  have n36 : ((c.toNat : Int) == 36) = false := by rw [hcv]; rfl
  have n39 : ((c.toNat : Int) == 39) = false := by rw [hcv]; rfl
  have n35 : ((c.toNat : Int) == 35) = false := by rw [hcv]; rfl
  have n58 : ((c.toNat : Int) == 58) = true := by rw [hcv]; rfl
  clear hcv hr h1
  rw [hE]
  have hbl := hrd.lt
  go_enter Tryz.func80, Tryz.ntmps80
  go_wp2_with fail
  have hr0 := hrd.alloc (Obj.cells #[.int .i64 0, .string ⟨#[]⟩, .int .i64 0, .int .i64 0] TT)
  have hm0 := (Mv.refl b w).alloc (Obj.cells #[.int .i64 0, .string ⟨#[]⟩, .int .i64 0, .int .i64 0] TT)
  have ht0 : Tk TT w.heap.size 0 ⟨#[]⟩ 0 0 (w.alloc (Obj.cells #[.int .i64 0, .string ⟨#[]⟩, .int .i64 0, .int .i64 0] TT)) := Tk.made w
  have hz0 : w.heap.size < (w.alloc (Obj.cells #[.int .i64 0, .string ⟨#[]⟩, .int .i64 0, .int .i64 0] TT)).heap.size := by simp
  obtain ⟨W0, hW⟩ : ∃ W0, w.alloc (Obj.cells #[.int .i64 0, .string ⟨#[]⟩, .int .i64 0, .int .i64 0] TT) = W0 := ⟨_, rfl⟩
  rw [hW] at hr0 hm0 ht0 hz0 ⊢
  clear hW
  refine (skip_any hs hat hr0).mono ?_; intro e w1 hsk
  rw [hk] at hsk
  obtain ⟨rfl, hr1, hm1⟩ := hsk
  rw [hp] at hr1
  have ht1 := ht0.mv hm1 (by omega)
  have hz1 : w.heap.size < w1.heap.size := Nat.lt_of_lt_of_le hz0 hm1.size
  have hm1 := hm0.trans hm1
  clear hr0 hm0 ht0 hz0
  have c1 := hr1.c1
  go_wp2_with fail
  have hS : Sn b s p w1.heap.size 0 (p : Int) ⟨#[]⟩ 0 w (w1.alloc (Obj.cells #[.int .i64 0, .string ⟨#[]⟩, .int .i64 0, .int .i64 (p : Int)] TT)) := ⟨hr1.alloc _, hm1.alloc _, ht1.alloc _, Tk.made w1, hz1⟩
  clear hr1 hm1 ht1 c1 hz1
  obtain ⟨W, hW⟩ : ∃ W, w1.alloc (Obj.cells #[.int .i64 0, .string ⟨#[]⟩, .int .i64 0, .int .i64 (p : Int)] TT) = W := ⟨_, rfl⟩
  rw [hW] at hS ⊢
  clear hW
  obtain ⟨K, hK⟩ : ∃ K, w1.heap.size = K := ⟨_, rfl⟩
  rw [hK] at hS ⊢
  clear hK
  have hKb : ¬ K = b := by have := hS.lt; omega
  have hbK : ¬ b = K := by omega
  have hKw : ¬ K = w.heap.size := by have := hS.lt; omega
  have hwK : ¬ w.heap.size = K := by omega
  have hwb : ¬ w.heap.size = b := by omega
  have hbw : ¬ b = w.heap.size := by omega
  refine (peekR0 hs hp2 hS.rd).mono ?_; rintro e w2 ⟨rfl, n1, hw⟩
  have hS : Sn b s p K 0 (p : Int) ⟨#[]⟩ 0 w w2 := by rw [hw]; exact hS.drewN _
  clear hw
  rw [hc]
  have c0 := hS.rd.c0
  have c1 := hS.rd.c1
  go_wp2_with fail
  go_quiet (fail)
  have hS := hS.drewN nq
  obtain ⟨W3, hW⟩ : ∃ W', w2.drewN nq = W' := ⟨_, rfl⟩
  rw [hW] at hS ⊢
  clear hW
  clear c0 c1
  go_wp2_with fail
  refine (letter_any c _).mono ?_; rintro e w' ⟨rfl, rfl⟩
  rw [hl]
  go_wp2_with fail
  refine (digit_any c _).mono ?_; rintro e w' ⟨rfl, rfl⟩
  rw [hdg]
  have c1 := hS.rd.c1
  have df := hS.rd.fz
  have g0 := hS.t1.c0
  have g1 := hS.t1.c1
  have g2 := hS.t1.c2
  have g3 := hS.t1.c3
  have gf := hS.t1.fz
  go_wp2_with fail
  have hS := (hS.move hbl (p + 1)).set0 hbl 16
  rw [show ((p + 1 : Nat) : Int) = (p : Int) + 1 by omega] at hS
  obtain ⟨W4, hW⟩ : ∃ W', (W3.setCell ⟨b, 1, none⟩ (.int .i64 ((p : Int) + 1))).setCell ⟨K, 0, none⟩ (.int .i64 16) = W' := ⟨_, rfl⟩
  rw [hW] at hS ⊢
  clear hW
  clear g0 g1 g2 g3 gf
  clear c1 df
  refine (peekR0 hs (by omega) hS.rd).mono ?_; rintro e w5 ⟨rfl, n2, hw⟩
  have hS : Sn b s (p + 1) K 16 (p : Int) ⟨#[]⟩ 0 w w5 := by rw [hw]; exact hS.drewN _
  clear hw
  rw [hd']
  have c1 := hS.rd.c1
  rw [show ((p + 1 : Nat) : Int) = (p : Int) + 1 by omega] at c1
  have df := hS.rd.fz
  have g0 := hS.t1.c0
  have g1 := hS.t1.c1
  have g2 := hS.t1.c2
  have g3 := hS.t1.c3
  have gf := hS.t1.fz
  have e0 := hS.t0.c0
  have e1 := hS.t0.c1
  have e2 := hS.t0.c2
  have e3 := hS.t0.c3
  have ef := hS.t0.fz
  go_wp2_with fail
  have hS := (hS.move hbl (p + 2)).set0 hbl 7
  rw [show ((p + 2 : Nat) : Int) = (p : Int) + 1 + 1 by omega] at hS
  refine bodyPost_ret (v := .agg #[.int .i64 7, .string ⟨#[]⟩, .int .i64 0, .int .i64 (p : Int)]) (by simp [results, Tryz.results80, go_sem, e0, e1, e2, e3]) rfl ?_
  obtain ⟨f1, f2⟩ := fin4 hS.rd hS.mv hbl (.int .i64 7) (.string ⟨#[]⟩) (.int .i64 0) (.int .i64 (p : Int))
  exact ⟨rfl, f1, f2⟩
set_option maxRecDepth 100000 in
set_option maxHeartbeats 1600000 in
theorem next_colon (hs : s.size ≤ 140737488351232) (hat : at_ ≤ s.size) (hrd : Rd RT b s at_ w) (hk : sk none 0 (s.data.toList.drop at_) = .ok k) (hp : at_ + k = p) (hp2 : p ≤ s.size) {c : UInt8} (hc : hd (s.data.toList.drop p) 0 = c) (hcv : c = 58) (h1 : hd (s.data.toList.drop (p + 1)) 0 ≠ 61) :
    Calls Tryz.prog 80 #[.pointer (some ⟨b, 0, none⟩)] w (Toked b s p (tokR (s.data.toList.drop p)) w) := by
  have hl : letter c = false := by rw [hcv]; rfl
  have hdg : digit c = false := by rw [hcv]; rfl
  have hc0 : c ≠ 0 := by rw [hcv]; decide
  have hlt : p < s.size := hd_in hc hc0
  have hge : decide (s.size ≤ p) = false := by simpa using hlt
  have hge2 : ¬ s.size ≤ p := by omega
  have hr : s.data.toList.drop p = c :: s.data.toList.drop (p + 1) := by rw [drop_cons s p hlt, show s[p] = c from (hd_drop s p 0 hlt).symm.trans hc]
  have hE : tokR (s.data.toList.drop p) = .ok (⟨16, [], 0, 0⟩, 1) := by
    have h2 : tokR (s.data.toList.drop p) = if hd (s.data.toList.drop (p + 1)) 0 = 61 then .ok (⟨7, [], 0, 0⟩, 2) else .ok (⟨16, [], 0, 0⟩, 1) := by rw [hr, hcv]; rfl
    rw [h2]; exact if_neg h1
  have hsum : IntKind.i64.wrap ((p : Int) + 1) = (p : Int) + 1 := IntWalk.i64_in _ (by omega)
  obtain ⟨d, hd'⟩ : ∃ d, hd (s.data.toList.drop (p + 1)) 0 = d := ⟨_, rfl⟩
  rw [hd'] at h1
  have n61 : ((d.toNat : Int) == 61) = false := bne_u8 d 61 (by omega) h1
  have n36 : ((c.toNat : Int) == 36) = false := by rw [hcv]; rfl
  have n39 : ((c.toNat : Int) == 39) = false := by rw [hcv]; rfl
  have n35 : ((c.toNat : Int) == 35) = false := by rw [hcv]; rfl
  have n58 : ((c.toNat : Int) == 58) = true := by rw [hcv]; rfl
  clear hcv hr h1
  rw [hE]
  have hbl := hrd.lt
  go_enter Tryz.func80, Tryz.ntmps80
  go_wp2_with fail
  have hr0 := hrd.alloc (Obj.cells #[.int .i64 0, .string ⟨#[]⟩, .int .i64 0, .int .i64 0] TT)
  have hm0 := (Mv.refl b w).alloc (Obj.cells #[.int .i64 0, .string ⟨#[]⟩, .int .i64 0, .int .i64 0] TT)
  have ht0 : Tk TT w.heap.size 0 ⟨#[]⟩ 0 0 (w.alloc (Obj.cells #[.int .i64 0, .string ⟨#[]⟩, .int .i64 0, .int .i64 0] TT)) := Tk.made w
  have hz0 : w.heap.size < (w.alloc (Obj.cells #[.int .i64 0, .string ⟨#[]⟩, .int .i64 0, .int .i64 0] TT)).heap.size := by simp
  obtain ⟨W0, hW⟩ : ∃ W0, w.alloc (Obj.cells #[.int .i64 0, .string ⟨#[]⟩, .int .i64 0, .int .i64 0] TT) = W0 := ⟨_, rfl⟩
  rw [hW] at hr0 hm0 ht0 hz0 ⊢
  clear hW
  refine (skip_any hs hat hr0).mono ?_; intro e w1 hsk
  rw [hk] at hsk
  obtain ⟨rfl, hr1, hm1⟩ := hsk
  rw [hp] at hr1
  have ht1 := ht0.mv hm1 (by omega)
  have hz1 : w.heap.size < w1.heap.size := Nat.lt_of_lt_of_le hz0 hm1.size
  have hm1 := hm0.trans hm1
  clear hr0 hm0 ht0 hz0
  have c1 := hr1.c1
  go_wp2_with fail
  have hS : Sn b s p w1.heap.size 0 (p : Int) ⟨#[]⟩ 0 w (w1.alloc (Obj.cells #[.int .i64 0, .string ⟨#[]⟩, .int .i64 0, .int .i64 (p : Int)] TT)) := ⟨hr1.alloc _, hm1.alloc _, ht1.alloc _, Tk.made w1, hz1⟩
  clear hr1 hm1 ht1 c1 hz1
  obtain ⟨W, hW⟩ : ∃ W, w1.alloc (Obj.cells #[.int .i64 0, .string ⟨#[]⟩, .int .i64 0, .int .i64 (p : Int)] TT) = W := ⟨_, rfl⟩
  rw [hW] at hS ⊢
  clear hW
  obtain ⟨K, hK⟩ : ∃ K, w1.heap.size = K := ⟨_, rfl⟩
  rw [hK] at hS ⊢
  clear hK
  have hKb : ¬ K = b := by have := hS.lt; omega
  have hbK : ¬ b = K := by omega
  have hKw : ¬ K = w.heap.size := by have := hS.lt; omega
  have hwK : ¬ w.heap.size = K := by omega
  have hwb : ¬ w.heap.size = b := by omega
  have hbw : ¬ b = w.heap.size := by omega
  refine (peekR0 hs hp2 hS.rd).mono ?_; rintro e w2 ⟨rfl, n1, hw⟩
  have hS : Sn b s p K 0 (p : Int) ⟨#[]⟩ 0 w w2 := by rw [hw]; exact hS.drewN _
  clear hw
  rw [hc]
  have c0 := hS.rd.c0
  have c1 := hS.rd.c1
  go_wp2_with fail
  go_quiet (fail)
  have hS := hS.drewN nq
  obtain ⟨W3, hW⟩ : ∃ W', w2.drewN nq = W' := ⟨_, rfl⟩
  rw [hW] at hS ⊢
  clear hW
  clear c0 c1
  go_wp2_with fail
  refine (letter_any c _).mono ?_; rintro e w' ⟨rfl, rfl⟩
  rw [hl]
  go_wp2_with fail
  refine (digit_any c _).mono ?_; rintro e w' ⟨rfl, rfl⟩
  rw [hdg]
  have c1 := hS.rd.c1
  have df := hS.rd.fz
  have g0 := hS.t1.c0
  have g1 := hS.t1.c1
  have g2 := hS.t1.c2
  have g3 := hS.t1.c3
  have gf := hS.t1.fz
  go_wp2_with fail
  have hS := (hS.move hbl (p + 1)).set0 hbl 16
  rw [show ((p + 1 : Nat) : Int) = (p : Int) + 1 by omega] at hS
  obtain ⟨W4, hW⟩ : ∃ W', (W3.setCell ⟨b, 1, none⟩ (.int .i64 ((p : Int) + 1))).setCell ⟨K, 0, none⟩ (.int .i64 16) = W' := ⟨_, rfl⟩
  rw [hW] at hS ⊢
  clear hW
  clear g0 g1 g2 g3 gf
  clear c1 df
  refine (peekR0 hs (by omega) hS.rd).mono ?_; rintro e w5 ⟨rfl, n2, hw⟩
  have hS : Sn b s (p + 1) K 16 (p : Int) ⟨#[]⟩ 0 w w5 := by rw [hw]; exact hS.drewN _
  clear hw
  rw [hd']
  have e0 := hS.t0.c0
  have e1 := hS.t0.c1
  have e2 := hS.t0.c2
  have e3 := hS.t0.c3
  have ef := hS.t0.fz
  have g0 := hS.t1.c0
  have g1 := hS.t1.c1
  have g2 := hS.t1.c2
  have g3 := hS.t1.c3
  have gf := hS.t1.fz
  go_wp2_with fail
  refine bodyPost_ret (v := .agg #[.int .i64 16, .string ⟨#[]⟩, .int .i64 0, .int .i64 (p : Int)]) (by simp [results, Tryz.results80, go_sem, e0, e1, e2, e3]) rfl ?_
  obtain ⟨f1, f2⟩ := fin4 hS.rd hS.mv hbl (.int .i64 16) (.string ⟨#[]⟩) (.int .i64 0) (.int .i64 (p : Int))
  exact ⟨rfl, f1, f2⟩
end Lx
end Go.Proofs.YthdigbkcffihkaaGreatDoor
