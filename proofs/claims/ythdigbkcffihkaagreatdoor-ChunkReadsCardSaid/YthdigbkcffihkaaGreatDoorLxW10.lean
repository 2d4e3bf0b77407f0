/- Package lex, the walk, 10: symbol's other ways (wip/gen/gen_sym.py prints this). -/
import Derived.Test.YthdigbkcffihkaaGreatDoorLxW9
set_option linter.unusedVariables false
namespace Go.Proofs.YthdigbkcffihkaaGreatDoor
open Go.RowKit
namespace Lx
variable {b at_ : Nat} {s : ByteArray} {w : World}
set_option maxHeartbeats 8000000 in
theorem symbol_quote (hs : s.size ≤ 140737488351232) (hat : at_ + 1 ≤ s.size) (hrd : Rd RT b s (at_ + 1) w) (hc : hd (s.data.toList.drop (at_ + 1)) 0 = 39) :
    Calls Tryz.prog 104 #[.pointer (some ⟨b, 0, none⟩), .int .i64 (at_ : Int)] w (Toked b s at_ (symR (s.data.toList.drop (at_ + 1))) w) := by
  have hlt : at_ + 1 < s.size := hd_in hc (by decide)
  have hdd : (s.data.toList.drop (at_ + 1)).drop 1 = s.data.toList.drop (at_ + 1 + 1) := by rw [List.drop_drop]
  have hsym : symR (s.data.toList.drop (at_ + 1)) = match txt (s.data.toList.drop (at_ + 1 + 1)) with
      | none => .error (0, 4)
      | some (w, n) => if 4096 < w.length then .error (0, 2) else if 64 < w.length then .error (0, 2) else .ok (⟨5, w, 0, 0⟩, n + 2) := by
    unfold symR; rw [hc, if_neg (by decide), if_pos rfl, hdd]; rfl
  obtain ⟨x, hx⟩ : ∃ x, txt (s.data.toList.drop (at_ + 1 + 1)) = x := ⟨_, rfl⟩
  rw [hx] at hsym
  cases x with
  | none =>
    have hE : symR (s.data.toList.drop (at_ + 1)) = .error (0, 4) := hsym
    clear hsym
    rw [hE]
    have hbl := hrd.lt
    have hne1 : ¬ b = w.heap.size := by omega
    have hne2 : ¬ w.heap.size = b := by omega
    have hne3 : ¬ b = w.heap.size + 1 := by omega
    have hne4 : ¬ w.heap.size + 1 = b := by omega
    have hne5 : ¬ w.heap.size = w.heap.size + 1 := by omega
    have hne6 : ¬ w.heap.size + 1 = w.heap.size := by omega
    go_enter Tryz.func104, Tryz.ntmps104
    go_wp2_with fail
    have hS := St.made hrd 5 (at_ : Int)
    obtain ⟨W, hW⟩ : ∃ W, (w.alloc (Obj.cells #[.int .i64 0, .string ⟨#[]⟩, .int .i64 0, .int .i64 0] TT)).alloc (Obj.cells #[.int .i64 5, .string ⟨#[]⟩, .int .i64 0, .int .i64 (at_ : Int)] TT) = W := ⟨_, rfl⟩
    rw [hW] at hS ⊢
    clear hW
    refine (peekR0 hs hat hS.rd).mono ?_; rintro e w1 ⟨rfl, n1, hw⟩
    have hS : St b s (at_ + 1) 5 (at_ : Int) ⟨#[]⟩ w w1 := by rw [hw]; exact hS.drewN _
    clear hw
    rw [hc]
    go_wp2_with fail
    refine (peekR0 hs hat hS.rd).mono ?_; rintro e w2 ⟨rfl, n1, hw⟩
    have hS : St b s (at_ + 1) 5 (at_ : Int) ⟨#[]⟩ w w2 := by rw [hw]; exact hS.drewN _
    clear hw
    rw [hc]
    go_wp2_with fail
    refine (text_any (at_ : Int) hs hlt hS.rd).mono ?_; intro e w3 ht
    rw [hx] at ht
    obtain ⟨rfl, hm⟩ := ht
    go_wp2
    exact ⟨rfl, rfl, hS.mv.trans hm⟩
  | some y =>
    obtain ⟨l, z⟩ := y
    simp only at hsym
    by_cases hbig : 4096 < l.length
    · have hE : symR (s.data.toList.drop (at_ + 1)) = .error (0, 2) := by rw [hsym]; exact if_pos hbig
      clear hsym
      rw [hE]
      have hbl := hrd.lt
      have hne1 : ¬ b = w.heap.size := by omega
      have hne2 : ¬ w.heap.size = b := by omega
      have hne3 : ¬ b = w.heap.size + 1 := by omega
      have hne4 : ¬ w.heap.size + 1 = b := by omega
      have hne5 : ¬ w.heap.size = w.heap.size + 1 := by omega
      have hne6 : ¬ w.heap.size + 1 = w.heap.size := by omega
      go_enter Tryz.func104, Tryz.ntmps104
      go_wp2_with fail
      have hS := St.made hrd 5 (at_ : Int)
      obtain ⟨W, hW⟩ : ∃ W, (w.alloc (Obj.cells #[.int .i64 0, .string ⟨#[]⟩, .int .i64 0, .int .i64 0] TT)).alloc (Obj.cells #[.int .i64 5, .string ⟨#[]⟩, .int .i64 0, .int .i64 (at_ : Int)] TT) = W := ⟨_, rfl⟩
      rw [hW] at hS ⊢
      clear hW
      refine (peekR0 hs hat hS.rd).mono ?_; rintro e w1 ⟨rfl, n1, hw⟩
      have hS : St b s (at_ + 1) 5 (at_ : Int) ⟨#[]⟩ w w1 := by rw [hw]; exact hS.drewN _
      clear hw
      rw [hc]
      go_wp2_with fail
      refine (peekR0 hs hat hS.rd).mono ?_; rintro e w2 ⟨rfl, n1, hw⟩
      have hS : St b s (at_ + 1) 5 (at_ : Int) ⟨#[]⟩ w w2 := by rw [hw]; exact hS.drewN _
      clear hw
      rw [hc]
      go_wp2_with fail
      refine (text_any (at_ : Int) hs hlt hS.rd).mono ?_; intro e w3 ht
      rw [hx] at ht
      have ht : Fell b (at_ : Int) 2 w2 e w3 := by
        have h2 : (if 4096 < l.length then Fell b (at_ : Int) 2 w2 e w3 else Turn RT b s (z + (at_ + 1 + 1)) (.string ⟨l.toArray⟩) w2 e w3) := ht
        rwa [if_pos hbig] at h2
      obtain ⟨rfl, hm⟩ := ht
      go_wp2
      exact ⟨rfl, rfl, hS.mv.trans hm⟩
    · have hll : (⟨l.toArray⟩ : ByteArray).size = l.length := by simp [ByteArray.size]
      by_cases h64 : 64 < l.length
      · have hE : symR (s.data.toList.drop (at_ + 1)) = .error (0, 2) := by rw [hsym]; exact (if_neg hbig).trans (if_pos h64)
        clear hsym
        obtain ⟨y, hy⟩ : ∃ y : ByteArray, (⟨l.toArray⟩ : ByteArray) = y := ⟨_, rfl⟩
        rw [hE]
        have hbl := hrd.lt
        have hne1 : ¬ b = w.heap.size := by omega
        have hne2 : ¬ w.heap.size = b := by omega
        have hne3 : ¬ b = w.heap.size + 1 := by omega
        have hne4 : ¬ w.heap.size + 1 = b := by omega
        have hne5 : ¬ w.heap.size = w.heap.size + 1 := by omega
        have hne6 : ¬ w.heap.size + 1 = w.heap.size := by omega
        go_enter Tryz.func104, Tryz.ntmps104
        go_wp2_with fail
        have hS := St.made hrd 5 (at_ : Int)
        obtain ⟨W, hW⟩ : ∃ W, (w.alloc (Obj.cells #[.int .i64 0, .string ⟨#[]⟩, .int .i64 0, .int .i64 0] TT)).alloc (Obj.cells #[.int .i64 5, .string ⟨#[]⟩, .int .i64 0, .int .i64 (at_ : Int)] TT) = W := ⟨_, rfl⟩
        rw [hW] at hS ⊢
        clear hW
        refine (peekR0 hs hat hS.rd).mono ?_; rintro e w1 ⟨rfl, n1, hw⟩
        have hS : St b s (at_ + 1) 5 (at_ : Int) ⟨#[]⟩ w w1 := by rw [hw]; exact hS.drewN _
        clear hw
        rw [hc]
        go_wp2_with fail
        refine (peekR0 hs hat hS.rd).mono ?_; rintro e w2 ⟨rfl, n1, hw⟩
        have hS : St b s (at_ + 1) 5 (at_ : Int) ⟨#[]⟩ w w2 := by rw [hw]; exact hS.drewN _
        clear hw
        rw [hc]
        go_wp2_with fail
        refine (text_any (at_ : Int) hs hlt hS.rd).mono ?_; intro e w3 ht
        rw [hx] at ht
        have ht : Turn RT b s (z + (at_ + 1 + 1)) (.string ⟨l.toArray⟩) w2 e w3 := by
          have h2 : (if 4096 < l.length then Fell b (at_ : Int) 2 w2 e w3 else Turn RT b s (z + (at_ + 1 + 1)) (.string ⟨l.toArray⟩) w2 e w3) := ht
          rwa [if_neg hbig] at h2
        rw [hy] at ht hll
        obtain ⟨rfl, hr3, hm⟩ := ht
        have hS := hS.call hbl hr3 hm
        have e0 := hS.t0.c0
        have e1 := hS.t0.c1
        have e2 := hS.t0.c2
        have e3 := hS.t0.c3
        have ef := hS.t0.fz
        have g0 := hS.t1.c0
        have g1 := hS.t1.c1
        have g2 := hS.t1.c2
        have g3 := hS.t1.c3
        have gf := hS.t1.fz
        go_wp2_with fail
        clear e0 e1 e2 e3 ef g0 g1 g2 g3 gf
        have hS := hS.word hbl (y)
        obtain ⟨w5, hW⟩ : ∃ W', w3.setCell ⟨w.heap.size + 1, 1, none⟩ (.string (y)) = W' := ⟨_, rfl⟩
        rw [hW] at hS ⊢
        clear hW
        have e0 := hS.t0.c0
        have e1 := hS.t0.c1
        have e2 := hS.t0.c2
        have e3 := hS.t0.c3
        have ef := hS.t0.fz
        have g0 := hS.t1.c0
        have g1 := hS.t1.c1
        have g2 := hS.t1.c2
        have g3 := hS.t1.c3
        have gf := hS.t1.fz
        go_wp2_with fail
        refine (word_long _ y _ (by rw [hll]; exact h64)).mono ?_; rintro e w9 ⟨rfl, rfl⟩
        go_wp2
        exact ⟨rfl, rfl, hS.mv⟩
      · have hE : symR (s.data.toList.drop (at_ + 1)) = .ok (⟨5, l, 0, 0⟩, z + 2) := by rw [hsym]; exact (if_neg hbig).trans (if_neg h64)
        clear hsym
        obtain ⟨y, hy⟩ : ∃ y : ByteArray, (⟨l.toArray⟩ : ByteArray) = y := ⟨_, rfl⟩
        rw [hE]
        have hbl := hrd.lt
        have hne1 : ¬ b = w.heap.size := by omega
        have hne2 : ¬ w.heap.size = b := by omega
        have hne3 : ¬ b = w.heap.size + 1 := by omega
        have hne4 : ¬ w.heap.size + 1 = b := by omega
        have hne5 : ¬ w.heap.size = w.heap.size + 1 := by omega
        have hne6 : ¬ w.heap.size + 1 = w.heap.size := by omega
        go_enter Tryz.func104, Tryz.ntmps104
        go_wp2_with fail
        have hS := St.made hrd 5 (at_ : Int)
        obtain ⟨W, hW⟩ : ∃ W, (w.alloc (Obj.cells #[.int .i64 0, .string ⟨#[]⟩, .int .i64 0, .int .i64 0] TT)).alloc (Obj.cells #[.int .i64 5, .string ⟨#[]⟩, .int .i64 0, .int .i64 (at_ : Int)] TT) = W := ⟨_, rfl⟩
        rw [hW] at hS ⊢
        clear hW
        refine (peekR0 hs hat hS.rd).mono ?_; rintro e w1 ⟨rfl, n1, hw⟩
        have hS : St b s (at_ + 1) 5 (at_ : Int) ⟨#[]⟩ w w1 := by rw [hw]; exact hS.drewN _
        clear hw
        rw [hc]
        go_wp2_with fail
        refine (peekR0 hs hat hS.rd).mono ?_; rintro e w2 ⟨rfl, n1, hw⟩
        have hS : St b s (at_ + 1) 5 (at_ : Int) ⟨#[]⟩ w w2 := by rw [hw]; exact hS.drewN _
        clear hw
        rw [hc]
        go_wp2_with fail
        refine (text_any (at_ : Int) hs hlt hS.rd).mono ?_; intro e w3 ht
        rw [hx] at ht
        have ht : Turn RT b s (z + (at_ + 1 + 1)) (.string ⟨l.toArray⟩) w2 e w3 := by
          have h2 : (if 4096 < l.length then Fell b (at_ : Int) 2 w2 e w3 else Turn RT b s (z + (at_ + 1 + 1)) (.string ⟨l.toArray⟩) w2 e w3) := ht
          rwa [if_neg hbig] at h2
        rw [hy] at ht hll
        obtain ⟨rfl, hr3, hm⟩ := ht
        have hS := hS.call hbl hr3 hm
        have e0 := hS.t0.c0
        have e1 := hS.t0.c1
        have e2 := hS.t0.c2
        have e3 := hS.t0.c3
        have ef := hS.t0.fz
        have g0 := hS.t1.c0
        have g1 := hS.t1.c1
        have g2 := hS.t1.c2
        have g3 := hS.t1.c3
        have gf := hS.t1.fz
        go_wp2_with fail
        clear e0 e1 e2 e3 ef g0 g1 g2 g3 gf
        have hS := hS.word hbl (y)
        obtain ⟨w5, hW⟩ : ∃ W', w3.setCell ⟨w.heap.size + 1, 1, none⟩ (.string (y)) = W' := ⟨_, rfl⟩
        rw [hW] at hS ⊢
        clear hW
        have e0 := hS.t0.c0
        have e1 := hS.t0.c1
        have e2 := hS.t0.c2
        have e3 := hS.t0.c3
        have ef := hS.t0.fz
        have g0 := hS.t1.c0
        have g1 := hS.t1.c1
        have g2 := hS.t1.c2
        have g3 := hS.t1.c3
        have gf := hS.t1.fz
        go_wp2_with fail
        refine (word_ok _ y _ (by rw [hll]; omega)).mono ?_; rintro e w9 ⟨rfl, rfl⟩
        go_wp2_with fail
        have hS := hS.word hbl y
        refine bodyPost_ret (v := .agg #[.int .i64 5, .string (y), .int .i64 0, .int .i64 (at_ : Int)]) (by simp [results, Tryz.results104, go_sem, e0, e1, e2, e3]) rfl ?_
        obtain ⟨f1, f2⟩ := fin4 hS.rd hS.mv hbl (.int .i64 5) (.string (y)) (.int .i64 0) (.int .i64 (at_ : Int))
        refine ⟨?_, ?_, f2⟩
        · rw [← hy]; rfl
        · rw [show at_ + (z + 2) = z + (at_ + 1 + 1) by omega]; exact f1
end Lx
end Go.Proofs.YthdigbkcffihkaaGreatDoor
