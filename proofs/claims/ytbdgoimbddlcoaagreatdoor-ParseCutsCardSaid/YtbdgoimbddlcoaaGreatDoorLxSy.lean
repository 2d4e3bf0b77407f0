/- Package lex, the walk: Spell of texts and symbols alone, Next where a text or a symbol begins (out of XLxW14, XLxW16, XLxSp). -/
import Derived.Test.YtbdgoimbddlcoaaGreatDoorLxSp
set_option linter.unusedVariables false
namespace Go.Proofs.YtbdgoimbddlcoaaGreatDoor
open Go.RowKit
namespace Lx
section
variable {b at_ k p : Nat} {s : ByteArray} {w : World}
theorem next_q (hs : s.size ≤ 140737488351232) (hat : at_ ≤ s.size) (hrd : Rd RT b s at_ w) (h0 : at_ < s.size) (hq : hd (s.data.toList.drop at_) 0 = 35 ∨ hd (s.data.toList.drop at_) 0 = 39) :
  Calls Tryz.prog 87 #[.pointer (some ⟨b, 0, none⟩)] w (Toked b s at_ (nextR (s.data.toList.drop at_)) w) := by
 have hk : sk none 0 (s.data.toList.drop at_) = .ok 0 := by
  cases e : s.data.toList.drop at_ with
  | nil => rw [e] at hq; rcases hq with h | h <;> exact absurd h (by decide)
  | cons c t =>
   rw [e] at hq
   have hc : c = 35 ∨ c = 39 := hq
   simp only [sk]
   rcases hc with rfl | rfl
   · rw [if_neg (by decide), if_neg (by decide)]
   · rw [if_neg (by decide), if_neg (by decide)]
 have h : Calls Tryz.prog 87 #[.pointer (some ⟨b, 0, none⟩)] w (Toked b s at_ (tokR (s.data.toList.drop at_)) w) := by
  rcases hq with hq | hq
  · exact next_hash hs hat hrd hk (Nat.add_zero _) hat hq rfl
  · exact next_text hs hat hrd hk (Nat.add_zero _) hat hq rfl
 unfold nextR
 rw [hk]
 simp only [List.drop_zero]
 cases hE : tokR (s.data.toList.drop at_) with
 | error x =>
  obtain ⟨q, n⟩ := x
  rw [hE] at h
  refine h.mono fun e w' hh => ?_
  show Fell b ((at_ + (0 + q) : Nat) : Int) n w e w'
  rw [Nat.zero_add]; exact hh
 | ok y =>
  obtain ⟨t, n⟩ := y
  rw [hE] at h
  refine h.mono fun e w' hh => ?_
  show Turn RT b s (at_ + (0 + n)) (tokV at_ { t with at_ := 0 + t.at_ }) w e w'
  rw [Nat.zero_add, Nat.zero_add]; exact hh
end
set_option maxRecDepth 100000 in
set_option maxHeartbeats 1600000 in
theorem Next_q (s : ByteArray) (at_ : Int) (a : Nat) (w : World) (hs : s.size ≤ 140737488351232) (ha : max 0 (min at_ (s.size : Int)) = (a : Int)) (hv : ErrVar w) (hq0 : a < s.size) (hq : hd (s.data.toList.drop a) 0 = 35 ∨ hd (s.data.toList.drop a) 0 = 39) :
  Calls Tryz.prog 49 #[.string s, .int .i64 at_] w (Nexted a (nextR (s.data.toList.drop a)) w) := by
 have hmf : ∀ (fn : Fn) (first cap : Array Value) (w : World), (Instr.makeFunc fn first cap).run Tryz.prog w = .ok (.func fn first cap) w := fun _ _ _ _ => rfl
 have has : a ≤ s.size := by omega
 have HQ := Lib.hid hq; clear hq
 obtain ⟨E, hE⟩ : ∃ E, nextR (s.data.toList.drop a) = E := ⟨_, rfl⟩
 have hvl : 5 < w.heap.size := ErrVar_lt hv
 have HV := Lib.hid hv; clear hv
 have HE := Lib.hid hE
 rw [hE]; clear hE
 go_enter_defers Tryz.func49, Tryz.ntmps49
 go_wp2_with fail
 have hN := Nx.made s a w
 obtain ⟨W, hW⟩ : ∃ W, ((((w.alloc (Obj.cells #[.int .i64 0, .string ⟨#[]⟩, .int .i64 0, .int .i64 0] TT)).alloc (Obj.cells #[.int .i64 0] IT)).alloc (Obj.cells #[.int .i64 0] ET)).alloc (Obj.cells #[.string s, .int .i64 (a : Int)] RT)) = W := ⟨_, rfl⟩
 rw [hW] at hN ⊢
 clear hW
 refine (next_q hs has hN.rd hq0 HQ.out).mono ?_; intro e w2 ht
 rw [HE.out] at ht
 cases E with
 | error x =>
  obtain ⟨p, n⟩ := x
  obtain ⟨rfl, hm⟩ := ht
  go_wp2_with fail
  refine leaves_cons (f := 85) (args := #[.pointer (some ⟨w.heap.size + 1, 0, none⟩), .pointer (some ⟨w.heap.size + 1 + 1, 0, none⟩), .pointer (some ⟨w.heap.size, 0, none⟩)]) (by simp) (by simp [go_sem]) ?_
  refine (catch_fault w.heap.size (w.heap.size + 1) (w.heap.size + 1 + 1) ((a + p : Nat) : Int) n 0 0 _ (hN.t0.mv hm (by omega)) (hN.o1.mv hm (by omega)) (hN.o2.mv hm (by omega)) (by omega) (by omega) (by omega)).mono ?_
  rintro e u' w3 ⟨rfl, rfl, h4, h5, h6, hb⟩
  have e0 := h4.c0
  have e1 := h4.c1
  have e2 := h4.c2
  have e3 := h4.c3
  have e5 := h5.c
  have e6 := h6.c
  have hbe := (hN.be.trans (hm.new_below (by omega) hN.be.size)).trans (hb w.heap.size (Nat.le_refl _) (by omega) (by omega) (Nat.le_trans hN.be.size hm.size))
  simp [Leaves, settle, results, Tryz.results49, go_sem, e0, e1, e2, e3, e5, e6]
  exact ⟨hbe, rfl⟩
 | ok y =>
  obtain ⟨t, n⟩ := y
  obtain ⟨rfl, hr2, hm⟩ := ht
  have hN := hN.call hr2 hm
  clear hr2 hm
  have hQ : ∀ W', Below w.heap.size w W' → Nexted a (.ok (t, n)) w (.returned (.tuple #[tokV a t, .int .i64 ((a + n : Nat) : Int), .int .i64 0])) W' := fun W' hb => ⟨hb, rfl⟩
  obtain ⟨kd, wd, nn, aa, hV⟩ : ∃ (kd : Int) (wd : ByteArray) (nn aa : Int), tokV a t = .agg #[.int .i64 kd, .string wd, .int .i64 nn, .int .i64 aa] := ⟨_, _, _, _, rfl⟩
  rw [hV] at hQ ⊢
  have HQ := Lib.hid hQ
  have e0 := hN.t0.c0
  have e1 := hN.t0.c1
  have e2 := hN.t0.c2
  have e3 := hN.t0.c3
  have ef := hN.t0.fz
  have hN := hN.row kd nn aa wd
  clear hQ hV HE
  go_wp2_with fail
  obtain ⟨W3, hW⟩ : ∃ W3, ((((w2.setCell ⟨w.heap.size, 0, none⟩ (.int .i64 kd)).setCell ⟨w.heap.size, 1, none⟩ (.string wd)).setCell ⟨w.heap.size, 2, none⟩ (.int .i64 nn)).setCell ⟨w.heap.size, 3, none⟩ (.int .i64 aa)) = W3 := ⟨_, rfl⟩
  rw [hW] at hN ⊢
  clear hW e0 e1 e2 e3 ef
  have e0 := hN.t0.c0
  have e1 := hN.t0.c1
  have e2 := hN.t0.c2
  have e3 := hN.t0.c3
  have ef := hN.t0.fz
  have d0 := hN.rd.c1
  have d1 := hN.o1.c
  have d2 := hN.o1.fz
  have d3 := hN.o2.c
  have d4 := hN.o2.fz
  have n1 : ¬ w.heap.size + 1 + 1 + 1 = w.heap.size := by omega
  have n2 : ¬ w.heap.size + 1 = w.heap.size := by omega
  have n3 : ¬ w.heap.size + 1 + 1 = w.heap.size := by omega
  have n4 : ¬ w.heap.size + 1 + 1 = w.heap.size + 1 := by omega
  obtain ⟨an, han⟩ : ∃ an : Int, ((a + n : Nat) : Int) = an := ⟨_, rfl⟩
  rw [han] at d0 HQ
  have hN := ((hN.row kd nn aa wd).ones an 0).drew
  go_region
  go_wp2
  clear e0 e1 e2 e3 ef d0 d1 d2 d3 d4
  refine leaves_cons (f := 85) (args := #[.pointer (some ⟨w.heap.size + 1, 0, none⟩), .pointer (some ⟨w.heap.size + 1 + 1, 0, none⟩), .pointer (some ⟨w.heap.size, 0, none⟩)]) (by simp) (by simp [go_sem]) ?_
  refine (catch_idle w.heap.size (w.heap.size + 1) (w.heap.size + 1 + 1) _).mono ?_
  rintro e u' w4 ⟨rfl, rfl, rfl⟩
  have e0 := hN.t0.c0
  have e1 := hN.t0.c1
  have e2 := hN.t0.c2
  have e3 := hN.t0.c3
  have d1 := hN.o1.c
  have d3 := hN.o2.c
  have hbe := hN.be
  obtain ⟨W4, hW⟩ : ∃ W4, (World.drew ((((((W3.setCell ⟨w.heap.size, 0, none⟩ (.int .i64 kd)).setCell ⟨w.heap.size, 1, none⟩ (.string wd)).setCell ⟨w.heap.size, 2, none⟩ (.int .i64 nn)).setCell ⟨w.heap.size, 3, none⟩ (.int .i64 aa)).setCell ⟨w.heap.size + 1, 0, none⟩ (.int .i64 an)).setCell ⟨w.heap.size + 1 + 1, 0, none⟩ (.int .i64 0))) = W4 := ⟨_, rfl⟩
  rw [hW] at e0 e1 e2 e3 d1 d3 hbe ⊢
  clear hW hN
  simp [Leaves, settle, results, Tryz.results49, go_sem, e0, e1, e2, e3, d1, d3]
  exact HQ.out _ hbe
section
variable {k n a : Int} {wd : ByteArray} {w : World}
theorem spelled_q (hk : k = 4 ∨ k = 5) (hs : wd.size ≤ 1073741824) (hm : MaxV w) :
  Calls Tryz.prog 189 #[.agg #[.int .i64 k, .string wd, .int .i64 n, .int .i64 a]] w (Back (.string ⟨(spelledL k wd.data.toList n).toArray⟩) w) := by
 rcases hk with c4 | c5
 · have := spelled_4 (a := a) (n := n) c4 hs hm
   rw [c4, sp4]; rw [c4] at this; exact this
 · subst c5
   rw [sp5]
   by_cases ha : arityP wd.data.toList < 0
   · rw [if_pos ha]; exact spelled_5q rfl hs ha hm
   · rw [if_neg ha]; exact spelled_5w rfl hs ha
set_option maxRecDepth 100000 in
set_option maxHeartbeats 1600000 in
theorem Spell_q (hk45 : k = 4 ∨ k = 5) (h0 : -9223372036854775808 ≤ n) (h1 : n ≤ 9223372036854775807) (hs : wd.size ≤ 1073741824) (ht : Pow10 w) (hm : MaxV w) (hv : ErrVar w) :
  Calls Tryz.prog 166 #[.agg #[.int .i64 k, .string wd, .int .i64 n, .int .i64 a]] w (Spelt (spelledL k wd.data.toList n) (spellB (spelledL k wd.data.toList n) k wd.data.toList n) w) := by
 have hlen := sp_len k n wd.data.toList h0 h1
 have hwl : wd.data.toList.length = wd.size := rfl
 have hsp := fun (v : World) (h : Pow10 v) (h' : MaxV v) => spelled_q (n := n) (a := a) hk45 hs h'
 obtain ⟨S, hS⟩ : ∃ S, spelledL k wd.data.toList n = S := ⟨_, rfl⟩
 rw [hS] at hlen hsp ⊢
 obtain ⟨B, hB⟩ : ∃ B, spellB S k wd.data.toList n = B := ⟨_, rfl⟩
 rw [hB]
 have hBB := hB
 unfold spellB at hBB
 obtain ⟨SS, hSS⟩ : ∃ SS : ByteArray, (⟨S.toArray⟩ : ByteArray) = SS := ⟨_, rfl⟩
 have hsz : SS.size = S.length := by rw [← hSS]; simp [ByteArray.size]
 have hSl : SS.data.toList = S := by rw [← hSS]
 have hS0 : hd S 0 = 35 ∨ hd S 0 = 39 := by
  rw [← hS]
  rcases hk45 with rfl | rfl
  · rw [sp4]; exact .inr rfl
  · rw [sp5]
    split
    · exact .inl rfl
    · exact .inl rfl
 have hS1 : 0 < S.length := by
  cases hSc : S with
  | nil => rw [hSc] at hS0; rcases hS0 with h | h <;> exact absurd h (by decide)
  | cons => simp
 have hN := fun (v : World) (h : ErrVar v) => Next_q SS 0 0 v (by omega) (by omega) h (by omega) (by rw [List.drop_zero, hSl]; exact hS0)
 have hk : -9223372036854775808 ≤ k ∧ k ≤ 9223372036854775807 := by omega
 rw [List.drop_zero, hSl] at hN
 obtain ⟨x, hx⟩ : ∃ x, nextR S = x := ⟨_, rfl⟩
 have herr := fun p n => nextR_err S p n
 rw [hx] at hN hBB herr
 rw [hSS] at hsp
 have HSP := Lib.hid hsp
 have HN := Lib.hid hN
 have HBB := Lib.hid hBB
 have HT := Lib.hid ht
 have HM := Lib.hid hm
 have HV := Lib.hid hv
 have HB0 : Below w.heap.size w (w.alloc (Obj.cells #[.int .i64 k, .string wd, .int .i64 n, .int .i64 a] TT)) := (Below.refl _ _).alloc (Nat.le_refl _) _
 have HSS := Lib.hid hSS
 have HSZ := Lib.hid hsz
 clear hsp hN hBB hB ht hm hv hx hSl hS hSS hwl hlen hsz
 cases x with
 | error y =>
  obtain ⟨p, m⟩ := y
  have hm0 := herr p m rfl
  have hmb : (m != 0) = true := by simpa using hm0
  have hBf : B = false := HBB.out.symm
  subst hBf
  clear herr hm0
  go_enter Tryz.func166, Tryz.ntmps166
  go_wp2_with fail
  refine (HSP.out _ (HT.out.below HB0) (HM.out.below HB0)).mono ?_; rintro e w2 ⟨rfl, hb2⟩
  have hT : Tk TT w.heap.size k wd n a w2 := (hb2.block _ (by simp)).trans (Tk.made w)
  have q3 := hT.c3
  have qf := hT.fz
  have hz2 : w.heap.size < w2.heap.size := by have := hb2.size; simp at this; omega
  have hb2 := HB0.trans (hb2.mono HB0.size)
  go_wp2_with fail
  have hT := hT.set3 0
  have hb3 : Below w.heap.size w (w2.setCell ⟨w.heap.size, 3, none⟩ (.int .i64 0)) := hb2.setCell (p := ⟨w.heap.size, 3, none⟩) (Nat.le_refl _) _
  have hz3 : w.heap.size < (w2.setCell ⟨w.heap.size, 3, none⟩ (.int .i64 0)).heap.size := by simpa [World.setCell] using hz2
  obtain ⟨W3, hW⟩ : ∃ W3, w2.setCell ⟨w.heap.size, 3, none⟩ (.int .i64 0) = W3 := ⟨_, rfl⟩
  rw [hW] at hT hb3 hz3 ⊢
  clear hW q3 qf hz2 hb2
  refine (HN.out _ (HV.out.below hb3)).mono ?_; rintro e w4 ⟨hb4, rfl⟩
  have hT : Tk TT w.heap.size k wd n 0 w4 := (hb4.block _ hz3).trans hT
  have hz4 : w.heap.size < w4.heap.size := Nat.lt_of_lt_of_le hz3 hb4.size
  have hb4 := hb3.trans (hb4.mono hb3.size)
  clear hb3 hz3
  have g0 := hT.c0
  have g1 := hT.c1
  have g2 := hT.c2
  have g3 := hT.c3
  rw [show tokV 0 ⟨0, [], 0, 0⟩ = .agg #[.int .i64 0, .string ⟨#[]⟩, .int .i64 0, .int .i64 0] from rfl]
  go_wp2_with fail
  go_ret2
  exact ⟨hb4.alloc (Nat.le_of_lt hz4) _, rfl⟩
 | ok y =>
  obtain ⟨t, m⟩ := y
  clear herr
  obtain ⟨kd, wd', nn, aa, hV, hq⟩ : ∃ (kd : Int) (wd' : ByteArray) (nn aa : Int), tokV 0 t = .agg #[.int .i64 kd, .string wd', .int .i64 nn, .int .i64 aa] ∧ (kd = (t.kind : Int) ∧ wd' = ⟨t.word.toArray⟩ ∧ nn = t.num ∧ aa = ((0 + t.at_ : Nat) : Int)) := ⟨_, _, _, _, rfl, rfl, rfl, rfl, rfl⟩
  have HQ := Lib.hid hq
  have HVV := Lib.hid hV
  clear hq hV
  by_cases hP : kd = k ∧ wd' = wd ∧ nn = n ∧ aa = 0 ∧ (m : Int) = (SS.size : Int)
  · have hBt : B = true := by
     rw [← HBB.out]
     obtain ⟨q1, q2, q3, q4⟩ := HQ.out
     obtain ⟨p1, p2, p3, p4, p5⟩ := hP
     have e1 : (t.kind : Int) = k := by rw [← q1]; exact p1
     have e2 : t.word = wd.data.toList := by rw [← p2, q2]
     have e3 : t.num = n := by rw [← q3]; exact p3
     have e4 : t.at_ = 0 := by omega
     have e5 : m = S.length := by have := HSZ.out; omega
     simp [e1, e2, e3, e4, e5]
    subst hBt
    obtain ⟨p1, p2, p3, rfl, p5⟩ := hP
    have p1 := p1.symm
    have p2 := p2.symm
    have p3 := p3.symm
    subst p1; subst p2; subst p3
    have p5b : ((m : Int) != (SS.size : Int)) = false := by simp [p5]
    clear p5
    go_enter Tryz.func166, Tryz.ntmps166
    go_wp2_with fail
    refine (HSP.out _ (HT.out.below HB0) (HM.out.below HB0)).mono ?_; rintro e w2 ⟨rfl, hb2⟩
    have hT : Tk TT w.heap.size k wd n a w2 := (hb2.block _ (by simp)).trans (Tk.made w)
    have q3 := hT.c3
    have qf := hT.fz
    have hz2 : w.heap.size < w2.heap.size := by have := hb2.size; simp at this; omega
    have hb2 := HB0.trans (hb2.mono HB0.size)
    go_wp2_with fail
    have hT := hT.set3 0
    have hb3 : Below w.heap.size w (w2.setCell ⟨w.heap.size, 3, none⟩ (.int .i64 0)) := hb2.setCell (p := ⟨w.heap.size, 3, none⟩) (Nat.le_refl _) _
    have hz3 : w.heap.size < (w2.setCell ⟨w.heap.size, 3, none⟩ (.int .i64 0)).heap.size := by simpa [World.setCell] using hz2
    obtain ⟨W3, hW⟩ : ∃ W3, w2.setCell ⟨w.heap.size, 3, none⟩ (.int .i64 0) = W3 := ⟨_, rfl⟩
    rw [hW] at hT hb3 hz3 ⊢
    clear hW q3 qf hz2 hb2
    refine (HN.out _ (HV.out.below hb3)).mono ?_; rintro e w4 ⟨hb4, rfl⟩
    have hT : Tk TT w.heap.size k wd n 0 w4 := (hb4.block _ hz3).trans hT
    have hz4 : w.heap.size < w4.heap.size := Nat.lt_of_lt_of_le hz3 hb4.size
    have hb4 := hb3.trans (hb4.mono hb3.size)
    clear hb3 hz3
    have g0 := hT.c0
    have g1 := hT.c1
    have g2 := hT.c2
    have g3 := hT.c3
    rw [HVV.out]
    go_wp2_with fail
    go_ret2
    refine ⟨hb4.alloc (Nat.le_of_lt hz4) _, ?_⟩
    rw [if_pos rfl, HSS.out]; rfl
  · have hBf : B = false := by
     cases B
     · rfl
     · exfalso
       have hb := HBB.out
       simp only [Bool.and_eq_true, decide_eq_true_eq] at hb
       obtain ⟨⟨⟨⟨b1, b2⟩, b3⟩, b4⟩, b5⟩ := hb
       obtain ⟨q1, q2, q3, q4⟩ := HQ.out
       refine hP ⟨q1.trans b1, ?_, q3.trans b3, by omega, by have := HSZ.out; omega⟩
       rw [q2, b2]
    subst hBf
    have HNP := Lib.hid hP
    clear hP
    go_enter Tryz.func166, Tryz.ntmps166
    go_wp2_with fail
    refine (HSP.out _ (HT.out.below HB0) (HM.out.below HB0)).mono ?_; rintro e w2 ⟨rfl, hb2⟩
    have hT : Tk TT w.heap.size k wd n a w2 := (hb2.block _ (by simp)).trans (Tk.made w)
    have q3 := hT.c3
    have qf := hT.fz
    have hz2 : w.heap.size < w2.heap.size := by have := hb2.size; simp at this; omega
    have hb2 := HB0.trans (hb2.mono HB0.size)
    go_wp2_with fail
    have hT := hT.set3 0
    have hb3 : Below w.heap.size w (w2.setCell ⟨w.heap.size, 3, none⟩ (.int .i64 0)) := hb2.setCell (p := ⟨w.heap.size, 3, none⟩) (Nat.le_refl _) _
    have hz3 : w.heap.size < (w2.setCell ⟨w.heap.size, 3, none⟩ (.int .i64 0)).heap.size := by simpa [World.setCell] using hz2
    obtain ⟨W3, hW⟩ : ∃ W3, w2.setCell ⟨w.heap.size, 3, none⟩ (.int .i64 0) = W3 := ⟨_, rfl⟩
    rw [hW] at hT hb3 hz3 ⊢
    clear hW q3 qf hz2 hb2
    refine (HN.out _ (HV.out.below hb3)).mono ?_; rintro e w4 ⟨hb4, rfl⟩
    have hT : Tk TT w.heap.size k wd n 0 w4 := (hb4.block _ hz3).trans hT
    have hz4 : w.heap.size < w4.heap.size := Nat.lt_of_lt_of_le hz3 hb4.size
    have hb4 := hb3.trans (hb4.mono hb3.size)
    clear hb3 hz3
    have g0 := hT.c0
    have g1 := hT.c1
    have g2 := hT.c2
    have g3 := hT.c3
    rw [HVV.out]
    go_wp2_with fail
    all_goals first
     | (go_ret2; exact ⟨hb4.alloc (Nat.le_of_lt hz4) _, rfl⟩)
     | (exfalso; exact HNP.out ⟨by assumption, bytes_inj (by assumption), by assumption, by assumption, by simpa using ‹((m : Int) != (SS.size : Int)) = false›⟩)
end
end Lx
end Go.Proofs.YtbdgoimbddlcoaaGreatDoor
