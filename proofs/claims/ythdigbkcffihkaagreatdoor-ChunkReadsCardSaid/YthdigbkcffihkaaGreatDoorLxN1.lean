/- Package lex, the walk, next: the end (wip/gen/gen_next.py prints this). -/
import Derived.Test.YthdigbkcffihkaaGreatDoorLxN0
import Derived.StillTailTactics
import Derived.RegionTactic
set_option linter.unusedVariables false
namespace Go.Proofs.YthdigbkcffihkaaGreatDoor
open Go.RowKit
namespace Lx
variable {b at_ k p : Nat} {s : ByteArray} {w : World}
set_option maxRecDepth 100000 in
set_option maxHeartbeats 1600000 in
theorem next_end (hs : s.size ≤ 140737488351232) (hat : at_ ≤ s.size) (hrd : Rd RT b s at_ w) (hk : sk none 0 (s.data.toList.drop at_) = .ok k) (hp : at_ + k = p) (hp2 : p ≤ s.size) (h : p = s.size) :
    Calls Tryz.prog 80 #[.pointer (some ⟨b, 0, none⟩)] w (Toked b s p (tokR (s.data.toList.drop p)) w) := by
  have hc : hd (s.data.toList.drop p) 0 = 0 := hd_past s p 0 (by omega)
  have hE : tokR (s.data.toList.drop p) = .ok (⟨0, [], 0, 0⟩, 0) := by rw [List.drop_eq_nil_of_le (show s.data.toList.length ≤ p from Nat.le_of_eq h.symm)]; rfl
  have hge : decide (s.size ≤ p) = true := by simp [h]
  have hge2 : s.size ≤ p := by omega
  clear h
  rw [hE]
  have hbl := hrd.lt
  go_enter Tryz.func80, Tryz.ntmps80
  go_wp2_with fail
  have hr0 := hrd.alloc (Obj.cells #[.int .i64 0, .string ⟨#[]⟩, .int .i64 0, .int .i64 0] TT)
  have hm0 := (Mv.refl b w).alloc (Obj.cells #[.int .i64 0, .string ⟨#[]⟩, .int .i64 0, .int .i64 0] TT)
  have ht0 : Tk TT w.heap.size 0 ⟨#[]⟩ 0 0 (w.alloc (Obj.cells #[.int .i64 0, .string ⟨#[]⟩, .int .i64 0, .int .i64 0] TT)) := Tk.made w
  have hz0 : w.heap.size < (w.alloc (Obj.cells #[.int .i64 0, .string ⟨#[]⟩, .int .i64 0, .int .i64 0] TT)).heap.size := by simp
  obtain ⟨W0, hW⟩ : ∃ W0, w.alloc (Obj.cells #[.int .i64 0, .string ⟨#[]⟩, .int .i64 0, .int .i64 0] TT) = W0 := ⟨_, rfl⟩
  rw [hW] at hr0 hm0 ht0 hz0 ⊢
  clear hW
  refine (skip_any hs hat hr0).mono ?_; intro e w1 hsk
  rw [hk] at hsk
  obtain ⟨rfl, hr1, hm1⟩ := hsk
  rw [hp] at hr1
  have ht1 := ht0.mv hm1 (by omega)
  have hz1 : w.heap.size < w1.heap.size := Nat.lt_of_lt_of_le hz0 hm1.size
  have hm1 := hm0.trans hm1
  clear hr0 hm0 ht0 hz0
  have c1 := hr1.c1
  go_wp2_with fail
  have hS : Sn b s p w1.heap.size 0 (p : Int) ⟨#[]⟩ 0 w (w1.alloc (Obj.cells #[.int .i64 0, .string ⟨#[]⟩, .int .i64 0, .int .i64 (p : Int)] TT)) := ⟨hr1.alloc _, hm1.alloc _, ht1.alloc _, Tk.made w1, hz1⟩
  clear hr1 hm1 ht1 c1 hz1
  obtain ⟨W, hW⟩ : ∃ W, w1.alloc (Obj.cells #[.int .i64 0, .string ⟨#[]⟩, .int .i64 0, .int .i64 (p : Int)] TT) = W := ⟨_, rfl⟩
  rw [hW] at hS ⊢
  clear hW
  obtain ⟨K, hK⟩ : ∃ K, w1.heap.size = K := ⟨_, rfl⟩
  rw [hK] at hS ⊢
  clear hK
  have hKb : ¬ K = b := by have := hS.lt; omega
  have hbK : ¬ b = K := by omega
  have hKw : ¬ K = w.heap.size := by have := hS.lt; omega
  have hwK : ¬ w.heap.size = K := by omega
  have hwb : ¬ w.heap.size = b := by omega
  have hbw : ¬ b = w.heap.size := by omega
  refine (peekR0 hs hp2 hS.rd).mono ?_; rintro e w2 ⟨rfl, n1, hw⟩
  have hS : Sn b s p K 0 (p : Int) ⟨#[]⟩ 0 w w2 := by rw [hw]; exact hS.drewN _
  clear hw
  rw [hc]
  have c0 := hS.rd.c0
  have c1 := hS.rd.c1
  go_wp2_with fail
  go_quiet (fail)
  have hS := hS.drewN nq
  obtain ⟨W3, hW⟩ : ∃ W', w2.drewN nq = W' := ⟨_, rfl⟩
  rw [hW] at hS ⊢
  clear hW
  clear c0 c1
  have e0 := hS.t0.c0
  have e1 := hS.t0.c1
  have e2 := hS.t0.c2
  have e3 := hS.t0.c3
  have ef := hS.t0.fz
  have g0 := hS.t1.c0
  have g1 := hS.t1.c1
  have g2 := hS.t1.c2
  have g3 := hS.t1.c3
  have gf := hS.t1.fz
  go_wp2_with fail
  refine bodyPost_ret (v := .agg #[.int .i64 0, .string ⟨#[]⟩, .int .i64 0, .int .i64 (p : Int)]) (by simp [results, Tryz.results80, go_sem, e0, e1, e2, e3]) rfl ?_
  obtain ⟨f1, f2⟩ := fin4 hS.rd hS.mv hbl (.int .i64 0) (.string ⟨#[]⟩) (.int .i64 0) (.int .i64 (p : Int))
  exact ⟨rfl, f1, f2⟩
end Lx
end Go.Proofs.YthdigbkcffihkaaGreatDoor
