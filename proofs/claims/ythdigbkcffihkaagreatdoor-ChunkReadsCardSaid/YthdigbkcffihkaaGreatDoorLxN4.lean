/- Package lex, the walk, next: digits (wip/gen/gen_next.py prints this). -/
import Derived.Test.YthdigbkcffihkaaGreatDoorLxN0
import Derived.StillTailTactics
import Derived.RegionTactic
set_option linter.unusedVariables false
namespace Go.Proofs.YthdigbkcffihkaaGreatDoor
open Go.RowKit
namespace Lx
variable {b at_ k p : Nat} {s : ByteArray} {w : World}
theorem tok_digit {r : Bytes} {c : UInt8} (hc : hd r 0 = c) (hl : letter c = false) (hdg : digit c = true) : tokR r = numR r := by
  cases r with
  | nil => subst hc; exact absurd hdg (by decide)
  | cons d t =>
    obtain rfl : d = c := hc
    show tokC d t = _
    unfold tokC numR
    rw [hl, hdg, if_neg (by decide), if_pos rfl]
set_option maxRecDepth 100000 in
set_option maxHeartbeats 1600000 in
theorem next_digit (hs : s.size ≤ 140737488351232) (hat : at_ ≤ s.size) (hrd : Rd RT b s at_ w) (hk : sk none 0 (s.data.toList.drop at_) = .ok k) (hp : at_ + k = p) (hp2 : p ≤ s.size) {c : UInt8} (hc : hd (s.data.toList.drop p) 0 = c) (hl : letter c = false) (hdg : digit c = true) (hv : ErrVar w) (hvb : 4 ≠ b) :
    Calls Tryz.prog 80 #[.pointer (some ⟨b, 0, none⟩)] w (Toked b s p (tokR (s.data.toList.drop p)) w) := by
  have hc0 : c ≠ 0 := by intro h; rw [h] at hdg; exact absurd hdg (by decide)
  have hlt : p < s.size := hd_in hc hc0
  have hge : decide (s.size ≤ p) = false := by simpa using hlt
  have hge2 : ¬ s.size ≤ p := by omega
  have hE0 := tok_digit hc hl hdg
  obtain ⟨E, hEE⟩ : ∃ E, numR (s.data.toList.drop p) = E := ⟨_, rfl⟩
  have hE : tokR (s.data.toList.drop p) = E := hE0.trans hEE
  have HV := Lib.hid hv
  have HEE := Lib.hid hEE
  clear hv hE0 hEE
  rw [hE]
  have hbl := hrd.lt
  go_enter Tryz.func80, Tryz.ntmps80
  go_wp2_with fail
  have hr0 := hrd.alloc (Obj.cells #[.int .i64 0, .string ⟨#[]⟩, .int .i64 0, .int .i64 0] TT)
  have hm0 := (Mv.refl b w).alloc (Obj.cells #[.int .i64 0, .string ⟨#[]⟩, .int .i64 0, .int .i64 0] TT)
  have ht0 : Tk TT w.heap.size 0 ⟨#[]⟩ 0 0 (w.alloc (Obj.cells #[.int .i64 0, .string ⟨#[]⟩, .int .i64 0, .int .i64 0] TT)) := Tk.made w
  have hz0 : w.heap.size < (w.alloc (Obj.cells #[.int .i64 0, .string ⟨#[]⟩, .int .i64 0, .int .i64 0] TT)).heap.size := by simp
  obtain ⟨W0, hW⟩ : ∃ W0, w.alloc (Obj.cells #[.int .i64 0, .string ⟨#[]⟩, .int .i64 0, .int .i64 0] TT) = W0 := ⟨_, rfl⟩
  rw [hW] at hr0 hm0 ht0 hz0 ⊢
  clear hW
  refine (skip_any hs hat hr0).mono ?_; intro e w1 hsk
  rw [hk] at hsk
  obtain ⟨rfl, hr1, hm1⟩ := hsk
  rw [hp] at hr1
  have ht1 := ht0.mv hm1 (by omega)
  have hz1 : w.heap.size < w1.heap.size := Nat.lt_of_lt_of_le hz0 hm1.size
  have hm1 := hm0.trans hm1
  clear hr0 hm0 ht0 hz0
  have c1 := hr1.c1
  go_wp2_with fail
  have hS : Sn b s p w1.heap.size 0 (p : Int) ⟨#[]⟩ 0 w (w1.alloc (Obj.cells #[.int .i64 0, .string ⟨#[]⟩, .int .i64 0, .int .i64 (p : Int)] TT)) := ⟨hr1.alloc _, hm1.alloc _, ht1.alloc _, Tk.made w1, hz1⟩
  clear hr1 hm1 ht1 c1 hz1
  obtain ⟨W, hW⟩ : ∃ W, w1.alloc (Obj.cells #[.int .i64 0, .string ⟨#[]⟩, .int .i64 0, .int .i64 (p : Int)] TT) = W := ⟨_, rfl⟩
  rw [hW] at hS ⊢
  clear hW
  obtain ⟨K, hK⟩ : ∃ K, w1.heap.size = K := ⟨_, rfl⟩
  rw [hK] at hS ⊢
  clear hK
  have hKb : ¬ K = b := by have := hS.lt; omega
  have hbK : ¬ b = K := by omega
  have hKw : ¬ K = w.heap.size := by have := hS.lt; omega
  have hwK : ¬ w.heap.size = K := by omega
  have hwb : ¬ w.heap.size = b := by omega
  have hbw : ¬ b = w.heap.size := by omega
  refine (peekR0 hs hp2 hS.rd).mono ?_; rintro e w2 ⟨rfl, n1, hw⟩
  have hS : Sn b s p K 0 (p : Int) ⟨#[]⟩ 0 w w2 := by rw [hw]; exact hS.drewN _
  clear hw
  rw [hc]
  have c0 := hS.rd.c0
  have c1 := hS.rd.c1
  go_wp2_with fail
  go_quiet (fail)
  have hS := hS.drewN nq
  obtain ⟨W3, hW⟩ : ∃ W', w2.drewN nq = W' := ⟨_, rfl⟩
  rw [hW] at hS ⊢
  clear hW
  clear c0 c1
  go_wp2_with fail
  refine (letter_any c _).mono ?_; rintro e w' ⟨rfl, rfl⟩
  rw [hl]
  go_wp2_with fail
  refine (digit_any c _).mono ?_; rintro e w' ⟨rfl, rfl⟩
  rw [hdg]
  go_wp2_with fail
  refine (number_any hs hp2 hS.rd (HV.out.mv hS.mv hvb) hvb).mono ?_; intro e w5 ht
  rw [HEE.out] at ht
  cases E with
  | error x =>
    obtain ⟨q, n⟩ := x
    obtain ⟨rfl, hm⟩ := ht
    go_wp2
    exact ⟨rfl, rfl, hS.mv.trans hm⟩
  | ok y =>
    obtain ⟨t, n⟩ := y
    obtain ⟨rfl, hr5, hm5⟩ := ht
    have hS := hS.call hbl hr5 hm5
    clear hr5 hm5
    unfold tokV
    have e0 := hS.t0.c0
    have e1 := hS.t0.c1
    have e2 := hS.t0.c2
    have e3 := hS.t0.c3
    have ef := hS.t0.fz
    go_wp2_with fail
    refine bodyPost_ret (v := .agg #[.int .i64 (t.kind : Int), .string ⟨t.word.toArray⟩, .int .i64 t.num, .int .i64 ((p + t.at_ : Nat) : Int)]) (by simp [results, Tryz.results80, go_sem, e0, e1, e2, e3]) rfl ?_
    obtain ⟨f1, f2⟩ := fin4 hS.rd hS.mv hbl (.int .i64 (t.kind : Int)) (.string ⟨t.word.toArray⟩) (.int .i64 t.num) (.int .i64 ((p + t.at_ : Nat) : Int))
    exact ⟨rfl, f1, f2⟩
end Lx
end Go.Proofs.YthdigbkcffihkaaGreatDoor
