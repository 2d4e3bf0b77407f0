/- Package parse, the walk, 16: element (wip/gen/gen_paw16.py prints this). -/
import Derived.Test.YtbdgoimbddlcoaaGreatDoorPaX3
set_option linter.unusedVariables false
namespace Go.Proofs.YtbdgoimbddlcoaaGreatDoor
open Go.RowKit
namespace Pa
open Bs Sm Tr
open Lx (Mv)
section
variable {b : Nat} {L : List Pt} {tb tc : Nat} {bad : Int} {a d f : Nat} {w w' w0 : World} {S S' : Nat → Prop} {K : Nat} {x : Nd}
set_option maxRecDepth 100000 in
set_option maxHeartbeats 3200000 in
theorem elem_step (hL : LOk L) (h : PA L bad f) (hP : Pr b L tb tc bad a d w) (ha : a < L.length) (hd : d ≤ 40) (hf : 16 * (L.length - a) + 2 ≤ f + 1) :
  Calls Tryz.prog 249 #[.pointer (some ⟨b, 0, none⟩)] w (NdO b L tb tc bad d (New w) (elemP L bad (f + 1) d a) w) := by
 have hlen := hL.len
 have hbl := hP.blk.lt
 have htl := hP.lt
 have hX := alloc_bel w (.cells z6 NDT)
 have HSI := simple_any hL (hP.bel hX) ha
 obtain ⟨R, hR⟩ : ∃ R, elemP L bad (f + 1) d a = R := ⟨_, rfl⟩
 rw [hR]
 rw [elemP] at hR
 have HX := Lib.hid hX
 cases hs : simpleP L a with
 | some y =>
  rw [simpleB_some hs] at HSI
  rw [hs] at hR
  simp only at hR
  subst hR
  have HSI := Lib.hid HSI
  clear hs hX h hL hP
  go_enter Tryz.func249, Tryz.ntmps249
  go_wp2_with fail
  refine HSI.out.mono ?_; intro e w1 ht
  obtain ⟨v, hv, rfl, hP1, hm1⟩ := ht
  obtain ⟨ka, kc, na, nc, rfl, hT, hN⟩ := hv.form
  have hs1 := hm1.size
  simp only [World.size_alloc] at hs1
  have hM1 := (Mv.of_bel (b := b) HX.out).trans hm1
  have hZ1 : Blk NDT w.heap.size #[.int .i64 0, .string ⟨#[]⟩, .int .i64 0, .slice none 0 0, .slice none 0 0, .int .i64 0] w1 := (hm1.block _ (by simp) (by omega)).trans (Blk.made w)
  have hT1 := hT.mono (S' := fun j => New w j ∧ j ≠ w.heap.size) (fun j hj hl => by unfold New at *; simp at hj; omega)
  have hN1 := hN.mono (S' := fun j => New w j ∧ j ≠ w.heap.size) (fun j hj hl => by unfold New at *; simp at hj; omega)
  have hbbA := alloc_bel w1 (.cells #[.int .i64 y.1.kind, .string ⟨y.1.name.toArray⟩, .int .i64 y.1.num, .slice ka y.1.kids.length kc, .slice na y.1.names.length nc, .int .i64 y.1.at_] NDT)
  have hMkA := Blk.made (T := NDT) (cs := #[.int .i64 y.1.kind, .string ⟨y.1.name.toArray⟩, .int .i64 y.1.num, .slice ka y.1.kids.length kc, .slice na y.1.names.length nc, .int .i64 y.1.at_]) w1
  have hszA : (w1.alloc (.cells #[.int .i64 y.1.kind, .string ⟨y.1.name.toArray⟩, .int .i64 y.1.num, .slice ka y.1.kids.length kc, .slice na y.1.names.length nc, .int .i64 y.1.at_] NDT)).heap.size = w1.heap.size + 1 := by simp
  have hP2 := hP1.bel hbbA
  have hM2 := hM1.alloc (.cells #[.int .i64 y.1.kind, .string ⟨y.1.name.toArray⟩, .int .i64 y.1.num, .slice ka y.1.kids.length kc, .slice na y.1.names.length nc, .int .i64 y.1.at_] NDT)
  have hZ2 := hZ1.alloc (.cells #[.int .i64 y.1.kind, .string ⟨y.1.name.toArray⟩, .int .i64 y.1.num, .slice ka y.1.kids.length kc, .slice na y.1.names.length nc, .int .i64 y.1.at_] NDT)
  have hT2 := hT1.bel hbbA
  have hN2 := hN1.below hbbA
  obtain ⟨W2, halA⟩ : ∃ W, w1.alloc (.cells #[.int .i64 y.1.kind, .string ⟨y.1.name.toArray⟩, .int .i64 y.1.num, .slice ka y.1.kids.length kc, .slice na y.1.names.length nc, .int .i64 y.1.at_] NDT) = W := ⟨_, rfl⟩
  rw [halA] at hMkA hszA hP2 hM2 hZ2 hT2 hN2
  clear hbbA
  have e0 := hMkA.c 0 _ rfl
  have e1 := hMkA.c 1 _ rfl
  have e2 := hMkA.c 2 _ rfl
  have e3 := hMkA.c 3 _ rfl
  have e4 := hMkA.c 4 _ rfl
  have e5 := hMkA.c 5 _ rfl
  have z0 := hZ2.c 0 _ rfl
  have z1 := hZ2.c 1 _ rfl
  have z2 := hZ2.c 2 _ rfl
  have z3 := hZ2.c 3 _ rfl
  have z4 := hZ2.c 4 _ rfl
  have z5 := hZ2.c 5 _ rfl
  have zf := hZ2.fz
  have HP2 := Lib.hid hP2
  have HM2 := Lib.hid hM2
  have HT2 := Lib.hid hT2
  have HN2 := Lib.hid hN2
  clear hv hm1 hP1 hT hN hZ1 hM1 hT1 hN1 hP2 hM2 hZ2 hT2 hN2 hMkA
  unfold ndA
  go_wp2_with fail
  refine bodyPost_ret (v := .agg #[.int .i64 y.1.kind, .string ⟨y.1.name.toArray⟩, .int .i64 y.1.num, .slice ka y.1.kids.length kc, .slice na y.1.names.length nc, .int .i64 y.1.at_]) (by simp [results, Tryz.results249, go_sem, ndA, z0, z1, z2, z3, z4, z5]) rfl ?_
  refine ⟨_, ⟨_, _, rfl, (HT2.out.kp (kp_set6 ?_)).mono (fun j hj _ => hj.1), (HN2.out.kp (kp_set6 ?_)).mono (fun j hj _ => hj.1)⟩, rfl, pr_far6 HP2.out (by omega) (by omega), mv_set6 HM2.out (Nat.le_refl _)⟩
  all_goals simp
 | none =>
  rw [simpleB_none hs] at HSI
  rw [hs] at hR
  simp only at hR
  have hkn := fun (k : Int) (hk : 0 < k) (he : (now L a).kind = k) => hL.next (k := k) (by simpa [isK] using he) hk ha
  have hkl := fun (he : (now L a).kind = 11 ∨ (now L a).kind = 15) => (show isK L 11 a = true ∨ isK L 15 a = true by rcases he with he | he <;> simp [isK, he])
  have HH := Lib.hid h
  have HSI := Lib.hid HSI
  have HNW := fun (w' : World) (hp : Pr b L tb tc bad a d w') => now_any hp ha
  have HSP := fun (w' : World) (hp : Pr b L tb tc bad a d w') => stop_any hp ha
  have HSY := fun (w' : World) (hp : Pr b L tb tc bad a d w') => symbol_any hL hp ha
  obtain ⟨t, ht⟩ : ∃ t, now L a = t := ⟨_, rfl⟩
  rw [ht] at HSI HNW hkn hR hkl HSY
  have HR := Lib.hid hR
  replace HNW := Lib.hid HNW
  replace HSP := Lib.hid HSP
  replace HSY := Lib.hid HSY
  have hkl := Lib.hid hkl
  clear hs hX h hL hP hR ht
  unfold ptV at HNW
  by_cases h6 : t.kind = 6
  · have hd6 : (t.kind == 6) = true := by simp [h6]
    have hd1 : (t.kind == 1) = false := by simp [h6]
    have hk1 := hkn 6 (by omega) h6
    have hR := HR.out
    rw [if_neg (by rw [h6]; decide), if_pos h6] at hR
    subst hR
    clear h6
    go_enter Tryz.func249, Tryz.ntmps249
    go_wp2_with fail
    refine HSI.out.mono ?_; intro e w1 ht
    obtain ⟨v, hv, rfl, hP1, hm1⟩ := ht
    obtain ⟨ka, kc, na, nc, rfl, hT, hN⟩ := hv.form
    have hs1 := hm1.size
    simp only [World.size_alloc] at hs1
    have hM1 := (Mv.of_bel (b := b) HX.out).trans hm1
    have hZ1 : Blk NDT w.heap.size z6 w1 := (hm1.block _ (by simp) (by omega)).trans (Blk.made w)
    have hP2 := hP1.bel (alloc_bel w1 (.cells (ndA (.mk 0 t.word t.num [] [] t.at_) ka kc na nc) NDT))
    have hM2 := hM1.alloc (.cells (ndA (.mk 0 t.word t.num [] [] t.at_) ka kc na nc) NDT)
    have hZ2 := hZ1.alloc (.cells (ndA (.mk 0 t.word t.num [] [] t.at_) ka kc na nc) NDT)
    unfold ndA
    unfold ndA at hP2 hM2 hZ2
    go_wp2_with fail
    refine (HNW.out _ hP2).mono ?_; rintro e w3 ⟨rfl, hb3⟩
    have hs3 := hb3.size
    simp only [World.size_alloc] at hs3
    have hP3 := hP2.bel hb3
    have hM3 := hM2.trans (Mv.of_bel hb3)
    have hZ3 := hZ2.below hb3 (by simp; omega)
    clear hv hP1 hm1 hT hN hM1 hZ1 hP2 hM2 hZ2 hb3
    have hbbB := alloc_bel w3 (.cells #[.int .i64 t.kind, .string ⟨t.word.toArray⟩, .int .i64 t.num, .int .i64 t.at_] KT)
    have hMkB := Blk.made (T := KT) (cs := #[.int .i64 t.kind, .string ⟨t.word.toArray⟩, .int .i64 t.num, .int .i64 t.at_]) w3
    have hszB : (w3.alloc (.cells #[.int .i64 t.kind, .string ⟨t.word.toArray⟩, .int .i64 t.num, .int .i64 t.at_] KT)).heap.size = w3.heap.size + 1 := by simp
    have hP4 := hP3.bel hbbB
    have hM4 := hM3.alloc (.cells #[.int .i64 t.kind, .string ⟨t.word.toArray⟩, .int .i64 t.num, .int .i64 t.at_] KT)
    have hZ4 := hZ3.alloc (.cells #[.int .i64 t.kind, .string ⟨t.word.toArray⟩, .int .i64 t.num, .int .i64 t.at_] KT)
    obtain ⟨W4, halB⟩ : ∃ W, w3.alloc (.cells #[.int .i64 t.kind, .string ⟨t.word.toArray⟩, .int .i64 t.num, .int .i64 t.at_] KT) = W := ⟨_, rfl⟩
    rw [halB] at hMkB hszB hP4 hM4 hZ4
    clear hbbB
    have p0 := hMkB.c 0 _ rfl
    have p1 := hMkB.c 1 _ rfl
    have p2 := hMkB.c 2 _ rfl
    have p3 := hMkB.c 3 _ rfl
    have hbbC := alloc_bel W4 (.cells #[.int .i64 3, .string ⟨t.word.toArray⟩, .int .i64 0, .slice none 0 0, .slice none 0 0, .int .i64 t.at_] NDT)
    have hMkC := Blk.made (T := NDT) (cs := #[.int .i64 3, .string ⟨t.word.toArray⟩, .int .i64 0, .slice none 0 0, .slice none 0 0, .int .i64 t.at_]) W4
    have hszC : (W4.alloc (.cells #[.int .i64 3, .string ⟨t.word.toArray⟩, .int .i64 0, .slice none 0 0, .slice none 0 0, .int .i64 t.at_] NDT)).heap.size = W4.heap.size + 1 := by simp
    have hP5 := hP4.bel hbbC
    have hM5 := hM4.alloc (.cells #[.int .i64 3, .string ⟨t.word.toArray⟩, .int .i64 0, .slice none 0 0, .slice none 0 0, .int .i64 t.at_] NDT)
    have hZ5 := hZ4.alloc (.cells #[.int .i64 3, .string ⟨t.word.toArray⟩, .int .i64 0, .slice none 0 0, .slice none 0 0, .int .i64 t.at_] NDT)
    have hK5 := hMkB.alloc (.cells #[.int .i64 3, .string ⟨t.word.toArray⟩, .int .i64 0, .slice none 0 0, .slice none 0 0, .int .i64 t.at_] NDT)
    obtain ⟨W5, halC⟩ : ∃ W, W4.alloc (.cells #[.int .i64 3, .string ⟨t.word.toArray⟩, .int .i64 0, .slice none 0 0, .slice none 0 0, .int .i64 t.at_] NDT) = W := ⟨_, rfl⟩
    rw [halC] at hMkC hszC hP5 hM5 hZ5 hK5
    clear hbbC
    have hZ5 : Blk NDT w.heap.size #[.int .i64 0, .string ⟨#[]⟩, .int .i64 0, .slice none 0 0, .slice none 0 0, .int .i64 0] W5 := hZ5
    rw [hszB] at hMkC
    clear hP3 hM3 hZ3 hP4 hM4 hZ4 hMkB
    have k0 := hK5.c 0 _ rfl
    have k1 := hK5.c 1 _ rfl
    have k2 := hK5.c 2 _ rfl
    have k3 := hK5.c 3 _ rfl
    have e0 := hMkC.c 0 _ rfl
    have e1 := hMkC.c 1 _ rfl
    have e2 := hMkC.c 2 _ rfl
    have e3 := hMkC.c 3 _ rfl
    have e4 := hMkC.c 4 _ rfl
    have e5 := hMkC.c 5 _ rfl
    have z0 := hZ5.c 0 _ rfl
    have z1 := hZ5.c 1 _ rfl
    have z2 := hZ5.c 2 _ rfl
    have z3 := hZ5.c 3 _ rfl
    have z4 := hZ5.c 4 _ rfl
    have z5 := hZ5.c 5 _ rfl
    have zf := hZ5.fz
    have ef := hMkC.fz
    have c2 := hP5.c2
    have f2 := hP5.blk.fz 2
    have wa : IntKind.i64.wrap ((a : Int) + 1) = (a : Int) + 1 := IntWalk.i64_in _ (by omega)
    have n1 : ¬ w3.heap.size = b := by omega
    have n2 : ¬ w.heap.size = b := by omega
    have n3 : ¬ b = w.heap.size := by omega
    have n4 : ¬ w3.heap.size + 1 = b := by omega
    have n5 : ¬ w3.heap.size + 1 = w.heap.size := by omega
    have n6 : ¬ w.heap.size = w3.heap.size + 1 := by omega
    have n7 : ¬ b = w3.heap.size + 1 := by omega
    have n8 : ¬ w3.heap.size = w3.heap.size + 1 := by omega
    have HP5 := Lib.hid hP5
    have HM5 := Lib.hid hM5
    clear hP5 hM5
    clear hZ5 hMkC hK5
    go_wp2_with fail
    refine bodyPost_ret (v := .agg #[.int .i64 3, .string ⟨(t.word).toArray⟩, .int .i64 0, .slice none 0 0, .slice none 0 0, .int .i64 t.at_]) (by simp [results, Tryz.results249, go_sem, ndA, z0, z1, z2, z3, z4, z5]) rfl ?_
    exact ⟨_, NdAt.leaf _ _ 3 0 t.at_ t.word, rfl, pr_far6 (HP5.out.setA (a + 1)) (by omega) (by omega), mv_set6 (HM5.out.set_ 2 _) (Nat.le_refl _)⟩
  have hd6 : (t.kind == 6) = false := by simp [h6]
  by_cases h1 : t.kind = 1
  · have hd1 : (t.kind == 1) = true := by simp [h1]
    have hk1 := hkn 1 (by omega) h1
    have hR := HR.out
    rw [if_pos h1] at hR
    clear h1 h6
    obtain ⟨b1, hb1⟩ : ∃ q, (t.word == [116, 114, 117, 101]) = q := ⟨_, rfl⟩
    obtain ⟨b2, hb2⟩ : ∃ q, (t.word == [102, 97, 108, 115, 101]) = q := ⟨_, rfl⟩
    obtain ⟨b3, hb3⟩ : ∃ q, (t.word == [110, 105, 108]) = q := ⟨_, rfl⟩
    obtain ⟨kd, hkd⟩ : ∃ k : Int, (if t.word = [116, 114, 117, 101] ∨ t.word = [102, 97, 108, 115, 101] ∨ t.word = [110, 105, 108] then (5 : Int) else 3) = k := ⟨_, rfl⟩
    rw [hkd] at hR
    subst hR
    have HKD : Hid ((b1 || b2 || b3) = true → kd = 5) := Lib.hid (fun h => by
     rw [← hkd, if_pos]
     rw [← hb1, ← hb2, ← hb3] at h
     simpa [or_assoc] using h)
    have HKE : Hid ((b1 || b2 || b3) = false → kd = 3) := Lib.hid (fun h => by
     rw [← hkd, if_neg]
     rw [← hb1, ← hb2, ← hb3] at h
     simpa [and_assoc] using h)
    clear hkd
    cases b1 with
    | true =>
     go_enter Tryz.func249, Tryz.ntmps249
     go_wp2_with fail
     refine HSI.out.mono ?_; intro e w1 ht
     obtain ⟨v, hv, rfl, hP1, hm1⟩ := ht
     obtain ⟨ka, kc, na, nc, rfl, hT, hN⟩ := hv.form
     have hs1 := hm1.size
     simp only [World.size_alloc] at hs1
     have hM1 := (Mv.of_bel (b := b) HX.out).trans hm1
     have hZ1 : Blk NDT w.heap.size z6 w1 := (hm1.block _ (by simp) (by omega)).trans (Blk.made w)
     have hP2 := hP1.bel (alloc_bel w1 (.cells (ndA (.mk 0 t.word t.num [] [] t.at_) ka kc na nc) NDT))
     have hM2 := hM1.alloc (.cells (ndA (.mk 0 t.word t.num [] [] t.at_) ka kc na nc) NDT)
     have hZ2 := hZ1.alloc (.cells (ndA (.mk 0 t.word t.num [] [] t.at_) ka kc na nc) NDT)
     unfold ndA
     unfold ndA at hP2 hM2 hZ2
     go_wp2_with fail
     refine (HNW.out _ hP2).mono ?_; rintro e w3 ⟨rfl, hb3⟩
     have hs3 := hb3.size
     simp only [World.size_alloc] at hs3
     have hP3 := hP2.bel hb3
     have hM3 := hM2.trans (Mv.of_bel hb3)
     have hZ3 := hZ2.below hb3 (by simp; omega)
     clear hv hP1 hm1 hT hN hM1 hZ1 hP2 hM2 hZ2 hb3
     have hbbB := alloc_bel w3 (.cells #[.int .i64 t.kind, .string ⟨t.word.toArray⟩, .int .i64 t.num, .int .i64 t.at_] KT)
     have hMkB := Blk.made (T := KT) (cs := #[.int .i64 t.kind, .string ⟨t.word.toArray⟩, .int .i64 t.num, .int .i64 t.at_]) w3
     have hszB : (w3.alloc (.cells #[.int .i64 t.kind, .string ⟨t.word.toArray⟩, .int .i64 t.num, .int .i64 t.at_] KT)).heap.size = w3.heap.size + 1 := by simp
     have hP4 := hP3.bel hbbB
     have hM4 := hM3.alloc (.cells #[.int .i64 t.kind, .string ⟨t.word.toArray⟩, .int .i64 t.num, .int .i64 t.at_] KT)
     have hZ4 := hZ3.alloc (.cells #[.int .i64 t.kind, .string ⟨t.word.toArray⟩, .int .i64 t.num, .int .i64 t.at_] KT)
     obtain ⟨W4, halB⟩ : ∃ W, w3.alloc (.cells #[.int .i64 t.kind, .string ⟨t.word.toArray⟩, .int .i64 t.num, .int .i64 t.at_] KT) = W := ⟨_, rfl⟩
     rw [halB] at hMkB hszB hP4 hM4 hZ4
     clear hbbB
     have p0 := hMkB.c 0 _ rfl
     have p1 := hMkB.c 1 _ rfl
     have p2 := hMkB.c 2 _ rfl
     have p3 := hMkB.c 3 _ rfl
     have hbbC := alloc_bel W4 (.cells #[.int .i64 3, .string ⟨t.word.toArray⟩, .int .i64 0, .slice none 0 0, .slice none 0 0, .int .i64 t.at_] NDT)
     have hMkC := Blk.made (T := NDT) (cs := #[.int .i64 3, .string ⟨t.word.toArray⟩, .int .i64 0, .slice none 0 0, .slice none 0 0, .int .i64 t.at_]) W4
     have hszC : (W4.alloc (.cells #[.int .i64 3, .string ⟨t.word.toArray⟩, .int .i64 0, .slice none 0 0, .slice none 0 0, .int .i64 t.at_] NDT)).heap.size = W4.heap.size + 1 := by simp
     have hP5 := hP4.bel hbbC
     have hM5 := hM4.alloc (.cells #[.int .i64 3, .string ⟨t.word.toArray⟩, .int .i64 0, .slice none 0 0, .slice none 0 0, .int .i64 t.at_] NDT)
     have hZ5 := hZ4.alloc (.cells #[.int .i64 3, .string ⟨t.word.toArray⟩, .int .i64 0, .slice none 0 0, .slice none 0 0, .int .i64 t.at_] NDT)
     have hK5 := hMkB.alloc (.cells #[.int .i64 3, .string ⟨t.word.toArray⟩, .int .i64 0, .slice none 0 0, .slice none 0 0, .int .i64 t.at_] NDT)
     obtain ⟨W5, halC⟩ : ∃ W, W4.alloc (.cells #[.int .i64 3, .string ⟨t.word.toArray⟩, .int .i64 0, .slice none 0 0, .slice none 0 0, .int .i64 t.at_] NDT) = W := ⟨_, rfl⟩
     rw [halC] at hMkC hszC hP5 hM5 hZ5 hK5
     clear hbbC
     have hZ5 : Blk NDT w.heap.size #[.int .i64 0, .string ⟨#[]⟩, .int .i64 0, .slice none 0 0, .slice none 0 0, .int .i64 0] W5 := hZ5
     rw [hszB] at hMkC
     clear hP3 hM3 hZ3 hP4 hM4 hZ4 hMkB
     have k0 := hK5.c 0 _ rfl
     have k1 := hK5.c 1 _ rfl
     have k2 := hK5.c 2 _ rfl
     have k3 := hK5.c 3 _ rfl
     have e0 := hMkC.c 0 _ rfl
     have e1 := hMkC.c 1 _ rfl
     have e2 := hMkC.c 2 _ rfl
     have e3 := hMkC.c 3 _ rfl
     have e4 := hMkC.c 4 _ rfl
     have e5 := hMkC.c 5 _ rfl
     have z0 := hZ5.c 0 _ rfl
     have z1 := hZ5.c 1 _ rfl
     have z2 := hZ5.c 2 _ rfl
     have z3 := hZ5.c 3 _ rfl
     have z4 := hZ5.c 4 _ rfl
     have z5 := hZ5.c 5 _ rfl
     have zf := hZ5.fz
     have ef := hMkC.fz
     have c2 := hP5.c2
     have f2 := hP5.blk.fz 2
     have wa : IntKind.i64.wrap ((a : Int) + 1) = (a : Int) + 1 := IntWalk.i64_in _ (by omega)
     have n1 : ¬ w3.heap.size = b := by omega
     have n2 : ¬ w.heap.size = b := by omega
     have n3 : ¬ b = w.heap.size := by omega
     have n4 : ¬ w3.heap.size + 1 = b := by omega
     have n5 : ¬ w3.heap.size + 1 = w.heap.size := by omega
     have n6 : ¬ w.heap.size = w3.heap.size + 1 := by omega
     have n7 : ¬ b = w3.heap.size + 1 := by omega
     have n8 : ¬ w3.heap.size = w3.heap.size + 1 := by omega
     have HP5 := Lib.hid hP5
     have HM5 := Lib.hid hM5
     clear hP5 hM5
     clear hZ5 hMkC hK5
     go_wp2_with fail
     refine bodyPost_ret (v := .agg #[.int .i64 5, .string ⟨(t.word).toArray⟩, .int .i64 0, .slice none 0 0, .slice none 0 0, .int .i64 t.at_]) (by simp [results, Tryz.results249, go_sem, ndA, z0, z1, z2, z3, z4, z5]) rfl ?_
     rw [HKD.out rfl]
     exact ⟨_, NdAt.leaf _ _ 5 0 t.at_ t.word, rfl, pr_far6 ((HP5.out.far (p := ⟨w3.heap.size + 1, 0, none⟩) n7 (show tb ≠ w3.heap.size + 1 by omega) _).setA (a + 1)) (by omega) (by omega), mv_set6 ((HM5.out.new (p := ⟨w3.heap.size + 1, 0, none⟩) (show w.heap.size ≤ w3.heap.size + 1 by omega) _).set_ 2 _) (Nat.le_refl _)⟩
    | false =>
     cases b2 with
     | true =>
      go_enter Tryz.func249, Tryz.ntmps249
      go_wp2_with fail
      refine HSI.out.mono ?_; intro e w1 ht
      obtain ⟨v, hv, rfl, hP1, hm1⟩ := ht
      obtain ⟨ka, kc, na, nc, rfl, hT, hN⟩ := hv.form
      have hs1 := hm1.size
      simp only [World.size_alloc] at hs1
      have hM1 := (Mv.of_bel (b := b) HX.out).trans hm1
      have hZ1 : Blk NDT w.heap.size z6 w1 := (hm1.block _ (by simp) (by omega)).trans (Blk.made w)
      have hP2 := hP1.bel (alloc_bel w1 (.cells (ndA (.mk 0 t.word t.num [] [] t.at_) ka kc na nc) NDT))
      have hM2 := hM1.alloc (.cells (ndA (.mk 0 t.word t.num [] [] t.at_) ka kc na nc) NDT)
      have hZ2 := hZ1.alloc (.cells (ndA (.mk 0 t.word t.num [] [] t.at_) ka kc na nc) NDT)
      unfold ndA
      unfold ndA at hP2 hM2 hZ2
      go_wp2_with fail
      refine (HNW.out _ hP2).mono ?_; rintro e w3 ⟨rfl, hb3⟩
      have hs3 := hb3.size
      simp only [World.size_alloc] at hs3
      have hP3 := hP2.bel hb3
      have hM3 := hM2.trans (Mv.of_bel hb3)
      have hZ3 := hZ2.below hb3 (by simp; omega)
      clear hv hP1 hm1 hT hN hM1 hZ1 hP2 hM2 hZ2 hb3
      have hbbB := alloc_bel w3 (.cells #[.int .i64 t.kind, .string ⟨t.word.toArray⟩, .int .i64 t.num, .int .i64 t.at_] KT)
      have hMkB := Blk.made (T := KT) (cs := #[.int .i64 t.kind, .string ⟨t.word.toArray⟩, .int .i64 t.num, .int .i64 t.at_]) w3
      have hszB : (w3.alloc (.cells #[.int .i64 t.kind, .string ⟨t.word.toArray⟩, .int .i64 t.num, .int .i64 t.at_] KT)).heap.size = w3.heap.size + 1 := by simp
      have hP4 := hP3.bel hbbB
      have hM4 := hM3.alloc (.cells #[.int .i64 t.kind, .string ⟨t.word.toArray⟩, .int .i64 t.num, .int .i64 t.at_] KT)
      have hZ4 := hZ3.alloc (.cells #[.int .i64 t.kind, .string ⟨t.word.toArray⟩, .int .i64 t.num, .int .i64 t.at_] KT)
      obtain ⟨W4, halB⟩ : ∃ W, w3.alloc (.cells #[.int .i64 t.kind, .string ⟨t.word.toArray⟩, .int .i64 t.num, .int .i64 t.at_] KT) = W := ⟨_, rfl⟩
      rw [halB] at hMkB hszB hP4 hM4 hZ4
      clear hbbB
      have p0 := hMkB.c 0 _ rfl
      have p1 := hMkB.c 1 _ rfl
      have p2 := hMkB.c 2 _ rfl
      have p3 := hMkB.c 3 _ rfl
      have hbbC := alloc_bel W4 (.cells #[.int .i64 3, .string ⟨t.word.toArray⟩, .int .i64 0, .slice none 0 0, .slice none 0 0, .int .i64 t.at_] NDT)
      have hMkC := Blk.made (T := NDT) (cs := #[.int .i64 3, .string ⟨t.word.toArray⟩, .int .i64 0, .slice none 0 0, .slice none 0 0, .int .i64 t.at_]) W4
      have hszC : (W4.alloc (.cells #[.int .i64 3, .string ⟨t.word.toArray⟩, .int .i64 0, .slice none 0 0, .slice none 0 0, .int .i64 t.at_] NDT)).heap.size = W4.heap.size + 1 := by simp
      have hP5 := hP4.bel hbbC
      have hM5 := hM4.alloc (.cells #[.int .i64 3, .string ⟨t.word.toArray⟩, .int .i64 0, .slice none 0 0, .slice none 0 0, .int .i64 t.at_] NDT)
      have hZ5 := hZ4.alloc (.cells #[.int .i64 3, .string ⟨t.word.toArray⟩, .int .i64 0, .slice none 0 0, .slice none 0 0, .int .i64 t.at_] NDT)
      have hK5 := hMkB.alloc (.cells #[.int .i64 3, .string ⟨t.word.toArray⟩, .int .i64 0, .slice none 0 0, .slice none 0 0, .int .i64 t.at_] NDT)
      obtain ⟨W5, halC⟩ : ∃ W, W4.alloc (.cells #[.int .i64 3, .string ⟨t.word.toArray⟩, .int .i64 0, .slice none 0 0, .slice none 0 0, .int .i64 t.at_] NDT) = W := ⟨_, rfl⟩
      rw [halC] at hMkC hszC hP5 hM5 hZ5 hK5
      clear hbbC
      have hZ5 : Blk NDT w.heap.size #[.int .i64 0, .string ⟨#[]⟩, .int .i64 0, .slice none 0 0, .slice none 0 0, .int .i64 0] W5 := hZ5
      rw [hszB] at hMkC
      clear hP3 hM3 hZ3 hP4 hM4 hZ4 hMkB
      have k0 := hK5.c 0 _ rfl
      have k1 := hK5.c 1 _ rfl
      have k2 := hK5.c 2 _ rfl
      have k3 := hK5.c 3 _ rfl
      have e0 := hMkC.c 0 _ rfl
      have e1 := hMkC.c 1 _ rfl
      have e2 := hMkC.c 2 _ rfl
      have e3 := hMkC.c 3 _ rfl
      have e4 := hMkC.c 4 _ rfl
      have e5 := hMkC.c 5 _ rfl
      have z0 := hZ5.c 0 _ rfl
      have z1 := hZ5.c 1 _ rfl
      have z2 := hZ5.c 2 _ rfl
      have z3 := hZ5.c 3 _ rfl
      have z4 := hZ5.c 4 _ rfl
      have z5 := hZ5.c 5 _ rfl
      have zf := hZ5.fz
      have ef := hMkC.fz
      have c2 := hP5.c2
      have f2 := hP5.blk.fz 2
      have wa : IntKind.i64.wrap ((a : Int) + 1) = (a : Int) + 1 := IntWalk.i64_in _ (by omega)
      have n1 : ¬ w3.heap.size = b := by omega
      have n2 : ¬ w.heap.size = b := by omega
      have n3 : ¬ b = w.heap.size := by omega
      have n4 : ¬ w3.heap.size + 1 = b := by omega
      have n5 : ¬ w3.heap.size + 1 = w.heap.size := by omega
      have n6 : ¬ w.heap.size = w3.heap.size + 1 := by omega
      have n7 : ¬ b = w3.heap.size + 1 := by omega
      have n8 : ¬ w3.heap.size = w3.heap.size + 1 := by omega
      have HP5 := Lib.hid hP5
      have HM5 := Lib.hid hM5
      clear hP5 hM5
      clear hZ5 hMkC hK5
      go_wp2_with fail
      refine bodyPost_ret (v := .agg #[.int .i64 5, .string ⟨(t.word).toArray⟩, .int .i64 0, .slice none 0 0, .slice none 0 0, .int .i64 t.at_]) (by simp [results, Tryz.results249, go_sem, ndA, z0, z1, z2, z3, z4, z5]) rfl ?_
      rw [HKD.out rfl]
      exact ⟨_, NdAt.leaf _ _ 5 0 t.at_ t.word, rfl, pr_far6 ((HP5.out.far (p := ⟨w3.heap.size + 1, 0, none⟩) n7 (show tb ≠ w3.heap.size + 1 by omega) _).setA (a + 1)) (by omega) (by omega), mv_set6 ((HM5.out.new (p := ⟨w3.heap.size + 1, 0, none⟩) (show w.heap.size ≤ w3.heap.size + 1 by omega) _).set_ 2 _) (Nat.le_refl _)⟩
     | false =>
      cases b3 with
      | true =>
       go_enter Tryz.func249, Tryz.ntmps249
       go_wp2_with fail
       refine HSI.out.mono ?_; intro e w1 ht
       obtain ⟨v, hv, rfl, hP1, hm1⟩ := ht
       obtain ⟨ka, kc, na, nc, rfl, hT, hN⟩ := hv.form
       have hs1 := hm1.size
       simp only [World.size_alloc] at hs1
       have hM1 := (Mv.of_bel (b := b) HX.out).trans hm1
       have hZ1 : Blk NDT w.heap.size z6 w1 := (hm1.block _ (by simp) (by omega)).trans (Blk.made w)
       have hP2 := hP1.bel (alloc_bel w1 (.cells (ndA (.mk 0 t.word t.num [] [] t.at_) ka kc na nc) NDT))
       have hM2 := hM1.alloc (.cells (ndA (.mk 0 t.word t.num [] [] t.at_) ka kc na nc) NDT)
       have hZ2 := hZ1.alloc (.cells (ndA (.mk 0 t.word t.num [] [] t.at_) ka kc na nc) NDT)
       unfold ndA
       unfold ndA at hP2 hM2 hZ2
       go_wp2_with fail
       refine (HNW.out _ hP2).mono ?_; rintro e w3 ⟨rfl, hb3⟩
       have hs3 := hb3.size
       simp only [World.size_alloc] at hs3
       have hP3 := hP2.bel hb3
       have hM3 := hM2.trans (Mv.of_bel hb3)
       have hZ3 := hZ2.below hb3 (by simp; omega)
       clear hv hP1 hm1 hT hN hM1 hZ1 hP2 hM2 hZ2 hb3
       have hbbB := alloc_bel w3 (.cells #[.int .i64 t.kind, .string ⟨t.word.toArray⟩, .int .i64 t.num, .int .i64 t.at_] KT)
       have hMkB := Blk.made (T := KT) (cs := #[.int .i64 t.kind, .string ⟨t.word.toArray⟩, .int .i64 t.num, .int .i64 t.at_]) w3
       have hszB : (w3.alloc (.cells #[.int .i64 t.kind, .string ⟨t.word.toArray⟩, .int .i64 t.num, .int .i64 t.at_] KT)).heap.size = w3.heap.size + 1 := by simp
       have hP4 := hP3.bel hbbB
       have hM4 := hM3.alloc (.cells #[.int .i64 t.kind, .string ⟨t.word.toArray⟩, .int .i64 t.num, .int .i64 t.at_] KT)
       have hZ4 := hZ3.alloc (.cells #[.int .i64 t.kind, .string ⟨t.word.toArray⟩, .int .i64 t.num, .int .i64 t.at_] KT)
       obtain ⟨W4, halB⟩ : ∃ W, w3.alloc (.cells #[.int .i64 t.kind, .string ⟨t.word.toArray⟩, .int .i64 t.num, .int .i64 t.at_] KT) = W := ⟨_, rfl⟩
       rw [halB] at hMkB hszB hP4 hM4 hZ4
       clear hbbB
       have p0 := hMkB.c 0 _ rfl
       have p1 := hMkB.c 1 _ rfl
       have p2 := hMkB.c 2 _ rfl
       have p3 := hMkB.c 3 _ rfl
       have hbbC := alloc_bel W4 (.cells #[.int .i64 3, .string ⟨t.word.toArray⟩, .int .i64 0, .slice none 0 0, .slice none 0 0, .int .i64 t.at_] NDT)
       have hMkC := Blk.made (T := NDT) (cs := #[.int .i64 3, .string ⟨t.word.toArray⟩, .int .i64 0, .slice none 0 0, .slice none 0 0, .int .i64 t.at_]) W4
       have hszC : (W4.alloc (.cells #[.int .i64 3, .string ⟨t.word.toArray⟩, .int .i64 0, .slice none 0 0, .slice none 0 0, .int .i64 t.at_] NDT)).heap.size = W4.heap.size + 1 := by simp
       have hP5 := hP4.bel hbbC
       have hM5 := hM4.alloc (.cells #[.int .i64 3, .string ⟨t.word.toArray⟩, .int .i64 0, .slice none 0 0, .slice none 0 0, .int .i64 t.at_] NDT)
       have hZ5 := hZ4.alloc (.cells #[.int .i64 3, .string ⟨t.word.toArray⟩, .int .i64 0, .slice none 0 0, .slice none 0 0, .int .i64 t.at_] NDT)
       have hK5 := hMkB.alloc (.cells #[.int .i64 3, .string ⟨t.word.toArray⟩, .int .i64 0, .slice none 0 0, .slice none 0 0, .int .i64 t.at_] NDT)
       obtain ⟨W5, halC⟩ : ∃ W, W4.alloc (.cells #[.int .i64 3, .string ⟨t.word.toArray⟩, .int .i64 0, .slice none 0 0, .slice none 0 0, .int .i64 t.at_] NDT) = W := ⟨_, rfl⟩
       rw [halC] at hMkC hszC hP5 hM5 hZ5 hK5
       clear hbbC
       have hZ5 : Blk NDT w.heap.size #[.int .i64 0, .string ⟨#[]⟩, .int .i64 0, .slice none 0 0, .slice none 0 0, .int .i64 0] W5 := hZ5
       rw [hszB] at hMkC
       clear hP3 hM3 hZ3 hP4 hM4 hZ4 hMkB
       have k0 := hK5.c 0 _ rfl
       have k1 := hK5.c 1 _ rfl
       have k2 := hK5.c 2 _ rfl
       have k3 := hK5.c 3 _ rfl
       have e0 := hMkC.c 0 _ rfl
       have e1 := hMkC.c 1 _ rfl
       have e2 := hMkC.c 2 _ rfl
       have e3 := hMkC.c 3 _ rfl
       have e4 := hMkC.c 4 _ rfl
       have e5 := hMkC.c 5 _ rfl
       have z0 := hZ5.c 0 _ rfl
       have z1 := hZ5.c 1 _ rfl
       have z2 := hZ5.c 2 _ rfl
       have z3 := hZ5.c 3 _ rfl
       have z4 := hZ5.c 4 _ rfl
       have z5 := hZ5.c 5 _ rfl
       have zf := hZ5.fz
       have ef := hMkC.fz
       have c2 := hP5.c2
       have f2 := hP5.blk.fz 2
       have wa : IntKind.i64.wrap ((a : Int) + 1) = (a : Int) + 1 := IntWalk.i64_in _ (by omega)
       have n1 : ¬ w3.heap.size = b := by omega
       have n2 : ¬ w.heap.size = b := by omega
       have n3 : ¬ b = w.heap.size := by omega
       have n4 : ¬ w3.heap.size + 1 = b := by omega
       have n5 : ¬ w3.heap.size + 1 = w.heap.size := by omega
       have n6 : ¬ w.heap.size = w3.heap.size + 1 := by omega
       have n7 : ¬ b = w3.heap.size + 1 := by omega
       have n8 : ¬ w3.heap.size = w3.heap.size + 1 := by omega
       have HP5 := Lib.hid hP5
       have HM5 := Lib.hid hM5
       clear hP5 hM5
       clear hZ5 hMkC hK5
       go_wp2_with fail
       refine bodyPost_ret (v := .agg #[.int .i64 5, .string ⟨(t.word).toArray⟩, .int .i64 0, .slice none 0 0, .slice none 0 0, .int .i64 t.at_]) (by simp [results, Tryz.results249, go_sem, ndA, z0, z1, z2, z3, z4, z5]) rfl ?_
       rw [HKD.out rfl]
       exact ⟨_, NdAt.leaf _ _ 5 0 t.at_ t.word, rfl, pr_far6 ((HP5.out.far (p := ⟨w3.heap.size + 1, 0, none⟩) n7 (show tb ≠ w3.heap.size + 1 by omega) _).setA (a + 1)) (by omega) (by omega), mv_set6 ((HM5.out.new (p := ⟨w3.heap.size + 1, 0, none⟩) (show w.heap.size ≤ w3.heap.size + 1 by omega) _).set_ 2 _) (Nat.le_refl _)⟩
      | false =>
       go_enter Tryz.func249, Tryz.ntmps249
       go_wp2_with fail
       refine HSI.out.mono ?_; intro e w1 ht
       obtain ⟨v, hv, rfl, hP1, hm1⟩ := ht
       obtain ⟨ka, kc, na, nc, rfl, hT, hN⟩ := hv.form
       have hs1 := hm1.size
       simp only [World.size_alloc] at hs1
       have hM1 := (Mv.of_bel (b := b) HX.out).trans hm1
       have hZ1 : Blk NDT w.heap.size z6 w1 := (hm1.block _ (by simp) (by omega)).trans (Blk.made w)
       have hP2 := hP1.bel (alloc_bel w1 (.cells (ndA (.mk 0 t.word t.num [] [] t.at_) ka kc na nc) NDT))
       have hM2 := hM1.alloc (.cells (ndA (.mk 0 t.word t.num [] [] t.at_) ka kc na nc) NDT)
       have hZ2 := hZ1.alloc (.cells (ndA (.mk 0 t.word t.num [] [] t.at_) ka kc na nc) NDT)
       unfold ndA
       unfold ndA at hP2 hM2 hZ2
       go_wp2_with fail
       refine (HNW.out _ hP2).mono ?_; rintro e w3 ⟨rfl, hb3⟩
       have hs3 := hb3.size
       simp only [World.size_alloc] at hs3
       have hP3 := hP2.bel hb3
       have hM3 := hM2.trans (Mv.of_bel hb3)
       have hZ3 := hZ2.below hb3 (by simp; omega)
       clear hv hP1 hm1 hT hN hM1 hZ1 hP2 hM2 hZ2 hb3
       have hbbB := alloc_bel w3 (.cells #[.int .i64 t.kind, .string ⟨t.word.toArray⟩, .int .i64 t.num, .int .i64 t.at_] KT)
       have hMkB := Blk.made (T := KT) (cs := #[.int .i64 t.kind, .string ⟨t.word.toArray⟩, .int .i64 t.num, .int .i64 t.at_]) w3
       have hszB : (w3.alloc (.cells #[.int .i64 t.kind, .string ⟨t.word.toArray⟩, .int .i64 t.num, .int .i64 t.at_] KT)).heap.size = w3.heap.size + 1 := by simp
       have hP4 := hP3.bel hbbB
       have hM4 := hM3.alloc (.cells #[.int .i64 t.kind, .string ⟨t.word.toArray⟩, .int .i64 t.num, .int .i64 t.at_] KT)
       have hZ4 := hZ3.alloc (.cells #[.int .i64 t.kind, .string ⟨t.word.toArray⟩, .int .i64 t.num, .int .i64 t.at_] KT)
       obtain ⟨W4, halB⟩ : ∃ W, w3.alloc (.cells #[.int .i64 t.kind, .string ⟨t.word.toArray⟩, .int .i64 t.num, .int .i64 t.at_] KT) = W := ⟨_, rfl⟩
       rw [halB] at hMkB hszB hP4 hM4 hZ4
       clear hbbB
       have p0 := hMkB.c 0 _ rfl
       have p1 := hMkB.c 1 _ rfl
       have p2 := hMkB.c 2 _ rfl
       have p3 := hMkB.c 3 _ rfl
       have hbbC := alloc_bel W4 (.cells #[.int .i64 3, .string ⟨t.word.toArray⟩, .int .i64 0, .slice none 0 0, .slice none 0 0, .int .i64 t.at_] NDT)
       have hMkC := Blk.made (T := NDT) (cs := #[.int .i64 3, .string ⟨t.word.toArray⟩, .int .i64 0, .slice none 0 0, .slice none 0 0, .int .i64 t.at_]) W4
       have hszC : (W4.alloc (.cells #[.int .i64 3, .string ⟨t.word.toArray⟩, .int .i64 0, .slice none 0 0, .slice none 0 0, .int .i64 t.at_] NDT)).heap.size = W4.heap.size + 1 := by simp
       have hP5 := hP4.bel hbbC
       have hM5 := hM4.alloc (.cells #[.int .i64 3, .string ⟨t.word.toArray⟩, .int .i64 0, .slice none 0 0, .slice none 0 0, .int .i64 t.at_] NDT)
       have hZ5 := hZ4.alloc (.cells #[.int .i64 3, .string ⟨t.word.toArray⟩, .int .i64 0, .slice none 0 0, .slice none 0 0, .int .i64 t.at_] NDT)
       have hK5 := hMkB.alloc (.cells #[.int .i64 3, .string ⟨t.word.toArray⟩, .int .i64 0, .slice none 0 0, .slice none 0 0, .int .i64 t.at_] NDT)
       obtain ⟨W5, halC⟩ : ∃ W, W4.alloc (.cells #[.int .i64 3, .string ⟨t.word.toArray⟩, .int .i64 0, .slice none 0 0, .slice none 0 0, .int .i64 t.at_] NDT) = W := ⟨_, rfl⟩
       rw [halC] at hMkC hszC hP5 hM5 hZ5 hK5
       clear hbbC
       have hZ5 : Blk NDT w.heap.size #[.int .i64 0, .string ⟨#[]⟩, .int .i64 0, .slice none 0 0, .slice none 0 0, .int .i64 0] W5 := hZ5
       rw [hszB] at hMkC
       clear hP3 hM3 hZ3 hP4 hM4 hZ4 hMkB
       have k0 := hK5.c 0 _ rfl
       have k1 := hK5.c 1 _ rfl
       have k2 := hK5.c 2 _ rfl
       have k3 := hK5.c 3 _ rfl
       have e0 := hMkC.c 0 _ rfl
       have e1 := hMkC.c 1 _ rfl
       have e2 := hMkC.c 2 _ rfl
       have e3 := hMkC.c 3 _ rfl
       have e4 := hMkC.c 4 _ rfl
       have e5 := hMkC.c 5 _ rfl
       have z0 := hZ5.c 0 _ rfl
       have z1 := hZ5.c 1 _ rfl
       have z2 := hZ5.c 2 _ rfl
       have z3 := hZ5.c 3 _ rfl
       have z4 := hZ5.c 4 _ rfl
       have z5 := hZ5.c 5 _ rfl
       have zf := hZ5.fz
       have ef := hMkC.fz
       have c2 := hP5.c2
       have f2 := hP5.blk.fz 2
       have wa : IntKind.i64.wrap ((a : Int) + 1) = (a : Int) + 1 := IntWalk.i64_in _ (by omega)
       have n1 : ¬ w3.heap.size = b := by omega
       have n2 : ¬ w.heap.size = b := by omega
       have n3 : ¬ b = w.heap.size := by omega
       have n4 : ¬ w3.heap.size + 1 = b := by omega
       have n5 : ¬ w3.heap.size + 1 = w.heap.size := by omega
       have n6 : ¬ w.heap.size = w3.heap.size + 1 := by omega
       have n7 : ¬ b = w3.heap.size + 1 := by omega
       have n8 : ¬ w3.heap.size = w3.heap.size + 1 := by omega
       have HP5 := Lib.hid hP5
       have HM5 := Lib.hid hM5
       clear hP5 hM5
       clear hZ5 hMkC hK5
       go_wp2_with fail
       refine bodyPost_ret (v := .agg #[.int .i64 3, .string ⟨(t.word).toArray⟩, .int .i64 0, .slice none 0 0, .slice none 0 0, .int .i64 t.at_]) (by simp [results, Tryz.results249, go_sem, ndA, z0, z1, z2, z3, z4, z5]) rfl ?_
       rw [HKE.out rfl]
       exact ⟨_, NdAt.leaf _ _ 3 0 t.at_ t.word, rfl, pr_far6 (HP5.out.setA (a + 1)) (by omega) (by omega), mv_set6 (HM5.out.set_ 2 _) (Nat.le_refl _)⟩
  have hd1 : (t.kind == 1) = false := by simp [h1]
  by_cases h2 : t.kind = 2
  · have hd2 : (t.kind == 2) = true := by simp [h2]
    have hR := HR.out
    rw [if_neg h1, if_neg h6, if_pos h2] at hR
    clear h1 h2 h6
    obtain ⟨sw, hsw⟩ : ∃ x, symP L (L.length + 1) t.at_ [] a = x := ⟨_, rfl⟩
    rw [hsw] at hR HSY
    obtain ⟨sw, sa⟩ := sw
    simp only at hR HSY
    subst hR
    clear hsw
    go_enter Tryz.func249, Tryz.ntmps249
    go_wp2_with fail
    refine HSI.out.mono ?_; intro e w1 ht
    obtain ⟨v, hv, rfl, hP1, hm1⟩ := ht
    obtain ⟨ka, kc, na, nc, rfl, hT, hN⟩ := hv.form
    have hs1 := hm1.size
    simp only [World.size_alloc] at hs1
    have hM1 := (Mv.of_bel (b := b) HX.out).trans hm1
    have hZ1 : Blk NDT w.heap.size z6 w1 := (hm1.block _ (by simp) (by omega)).trans (Blk.made w)
    have hP2 := hP1.bel (alloc_bel w1 (.cells (ndA (.mk 0 t.word t.num [] [] t.at_) ka kc na nc) NDT))
    have hM2 := hM1.alloc (.cells (ndA (.mk 0 t.word t.num [] [] t.at_) ka kc na nc) NDT)
    have hZ2 := hZ1.alloc (.cells (ndA (.mk 0 t.word t.num [] [] t.at_) ka kc na nc) NDT)
    unfold ndA
    unfold ndA at hP2 hM2 hZ2
    go_wp2_with fail
    refine (HNW.out _ hP2).mono ?_; rintro e w3 ⟨rfl, hb3⟩
    have hs3 := hb3.size
    simp only [World.size_alloc] at hs3
    have hP3 := hP2.bel hb3
    have hM3 := hM2.trans (Mv.of_bel hb3)
    have hZ3 := hZ2.below hb3 (by simp; omega)
    clear hv hP1 hm1 hT hN hM1 hZ1 hP2 hM2 hZ2 hb3
    have hbbB := alloc_bel w3 (.cells #[.int .i64 t.kind, .string ⟨t.word.toArray⟩, .int .i64 t.num, .int .i64 t.at_] KT)
    have hMkB := Blk.made (T := KT) (cs := #[.int .i64 t.kind, .string ⟨t.word.toArray⟩, .int .i64 t.num, .int .i64 t.at_]) w3
    have hszB : (w3.alloc (.cells #[.int .i64 t.kind, .string ⟨t.word.toArray⟩, .int .i64 t.num, .int .i64 t.at_] KT)).heap.size = w3.heap.size + 1 := by simp
    have hP4 := hP3.bel hbbB
    have hM4 := hM3.alloc (.cells #[.int .i64 t.kind, .string ⟨t.word.toArray⟩, .int .i64 t.num, .int .i64 t.at_] KT)
    have hZ4 := hZ3.alloc (.cells #[.int .i64 t.kind, .string ⟨t.word.toArray⟩, .int .i64 t.num, .int .i64 t.at_] KT)
    obtain ⟨W4, halB⟩ : ∃ W, w3.alloc (.cells #[.int .i64 t.kind, .string ⟨t.word.toArray⟩, .int .i64 t.num, .int .i64 t.at_] KT) = W := ⟨_, rfl⟩
    rw [halB] at hMkB hszB hP4 hM4 hZ4
    clear hbbB
    have p0 := hMkB.c 0 _ rfl
    have p1 := hMkB.c 1 _ rfl
    have p2 := hMkB.c 2 _ rfl
    have p3 := hMkB.c 3 _ rfl
    have hbbC := alloc_bel W4 (.cells #[.int .i64 3, .string ⟨t.word.toArray⟩, .int .i64 0, .slice none 0 0, .slice none 0 0, .int .i64 t.at_] NDT)
    have hMkC := Blk.made (T := NDT) (cs := #[.int .i64 3, .string ⟨t.word.toArray⟩, .int .i64 0, .slice none 0 0, .slice none 0 0, .int .i64 t.at_]) W4
    have hszC : (W4.alloc (.cells #[.int .i64 3, .string ⟨t.word.toArray⟩, .int .i64 0, .slice none 0 0, .slice none 0 0, .int .i64 t.at_] NDT)).heap.size = W4.heap.size + 1 := by simp
    have hP5 := hP4.bel hbbC
    have hM5 := hM4.alloc (.cells #[.int .i64 3, .string ⟨t.word.toArray⟩, .int .i64 0, .slice none 0 0, .slice none 0 0, .int .i64 t.at_] NDT)
    have hZ5 := hZ4.alloc (.cells #[.int .i64 3, .string ⟨t.word.toArray⟩, .int .i64 0, .slice none 0 0, .slice none 0 0, .int .i64 t.at_] NDT)
    have hK5 := hMkB.alloc (.cells #[.int .i64 3, .string ⟨t.word.toArray⟩, .int .i64 0, .slice none 0 0, .slice none 0 0, .int .i64 t.at_] NDT)
    obtain ⟨W5, halC⟩ : ∃ W, W4.alloc (.cells #[.int .i64 3, .string ⟨t.word.toArray⟩, .int .i64 0, .slice none 0 0, .slice none 0 0, .int .i64 t.at_] NDT) = W := ⟨_, rfl⟩
    rw [halC] at hMkC hszC hP5 hM5 hZ5 hK5
    clear hbbC
    have hZ5 : Blk NDT w.heap.size #[.int .i64 0, .string ⟨#[]⟩, .int .i64 0, .slice none 0 0, .slice none 0 0, .int .i64 0] W5 := hZ5
    rw [hszB] at hMkC
    clear hP3 hM3 hZ3 hP4 hM4 hZ4 hMkB
    have HS5 := Lib.hid (HSY.out W5 hP5)
    have HM5 := Lib.hid hM5
    have HZ5 := Lib.hid hZ5
    have HK5 := Lib.hid hMkC
    have k0 := hK5.c 0 _ rfl
    have k1 := hK5.c 1 _ rfl
    have k2 := hK5.c 2 _ rfl
    have k3 := hK5.c 3 _ rfl
    clear hP5 hM5 hZ5 hMkC hK5
    go_wp2_with fail
    refine HS5.out.mono ?_; rintro e w6 ⟨rfl, hP6, hm6⟩
    have hs6 := hm6.size
    have hZ6 : Blk NDT w.heap.size #[.int .i64 0, .string ⟨#[]⟩, .int .i64 0, .slice none 0 0, .slice none 0 0, .int .i64 0] w6 := (hm6.block _ (by omega) (by omega)).trans HZ5.out
    have hB6 : Blk NDT (w3.heap.size + 1) #[.int .i64 3, .string ⟨t.word.toArray⟩, .int .i64 0, .slice none 0 0, .slice none 0 0, .int .i64 t.at_] w6 := (hm6.block _ (by omega) (by omega)).trans HK5.out
    have hM6 := HM5.out.trans hm6
    have e0 := hB6.c 0 _ rfl
    have e1 := hB6.c 1 _ rfl
    have e2 := hB6.c 2 _ rfl
    have e3 := hB6.c 3 _ rfl
    have e4 := hB6.c 4 _ rfl
    have e5 := hB6.c 5 _ rfl
    have z0 := hZ6.c 0 _ rfl
    have z1 := hZ6.c 1 _ rfl
    have z2 := hZ6.c 2 _ rfl
    have z3 := hZ6.c 3 _ rfl
    have z4 := hZ6.c 4 _ rfl
    have z5 := hZ6.c 5 _ rfl
    have zf := hZ6.fz
    have ef := hB6.fz
    have n5 : ¬ w3.heap.size + 1 = w.heap.size := by omega
    have n6 : ¬ w.heap.size = w3.heap.size + 1 := by omega
    have HP6 := Lib.hid hP6
    have HM6 := Lib.hid hM6
    clear hP6 hM6 hZ6 hB6 hm6 k0 k1 k2 k3 p0 p1 p2 p3 halB halC
    go_wp2_with fail
    refine bodyPost_ret (v := .agg #[.int .i64 3, .string ⟨(sw).toArray⟩, .int .i64 0, .slice none 0 0, .slice none 0 0, .int .i64 t.at_]) (by simp [results, Tryz.results249, go_sem, ndA, z0, z1, z2, z3, z4, z5]) rfl ?_
    exact ⟨_, NdAt.leaf _ _ 3 0 t.at_ sw, rfl, pr_far6 (HP6.out.far (p := ⟨w3.heap.size + 1, 1, none⟩) (show b ≠ w3.heap.size + 1 by omega) (show tb ≠ w3.heap.size + 1 by omega) _) (by omega) (by omega), mv_set6 (HM6.out.new (p := ⟨w3.heap.size + 1, 1, none⟩) (show w.heap.size ≤ w3.heap.size + 1 by omega) _) (Nat.le_refl _)⟩
  have hd2 : (t.kind == 2) = false := by simp [h2]
  by_cases h5 : t.kind = 11 ∨ t.kind = 15
  · have hR := HR.out
    rw [if_neg h1, if_neg h6, if_neg h2, if_pos h5] at hR
    have HC := fun (w' : World) (hp : Pr b L tb tc bad a d w') => HH.out.list hp ha hd (hkl.out h5) (by omega)
    rw [hR] at HC
    replace HC := Lib.hid HC
    clear hR
    by_cases h11 : t.kind = 11
    · have hd11 : (t.kind == 11) = true := by simp [h11]
      clear h1 h2 h5 h6 h11
      go_enter Tryz.func249, Tryz.ntmps249
      go_wp2_with fail
      refine HSI.out.mono ?_; intro e w1 ht
      obtain ⟨v, hv, rfl, hP1, hm1⟩ := ht
      obtain ⟨ka, kc, na, nc, rfl, hT, hN⟩ := hv.form
      have hs1 := hm1.size
      simp only [World.size_alloc] at hs1
      have hM1 := (Mv.of_bel (b := b) HX.out).trans hm1
      have hZ1 : Blk NDT w.heap.size z6 w1 := (hm1.block _ (by simp) (by omega)).trans (Blk.made w)
      have hP2 := hP1.bel (alloc_bel w1 (.cells (ndA (.mk 0 t.word t.num [] [] t.at_) ka kc na nc) NDT))
      have hM2 := hM1.alloc (.cells (ndA (.mk 0 t.word t.num [] [] t.at_) ka kc na nc) NDT)
      have hZ2 := hZ1.alloc (.cells (ndA (.mk 0 t.word t.num [] [] t.at_) ka kc na nc) NDT)
      unfold ndA
      unfold ndA at hP2 hM2 hZ2
      go_wp2_with fail
      refine (HNW.out _ hP2).mono ?_; rintro e w3 ⟨rfl, hb3⟩
      have hs3 := hb3.size
      simp only [World.size_alloc] at hs3
      have hP3 := hP2.bel hb3
      have hM3 := hM2.trans (Mv.of_bel hb3)
      have hZ3 := hZ2.below hb3 (by simp; omega)
      clear hv hP1 hm1 hT hN hM1 hZ1 hP2 hM2 hZ2 hb3
      have hbbB := alloc_bel w3 (.cells #[.int .i64 t.kind, .string ⟨t.word.toArray⟩, .int .i64 t.num, .int .i64 t.at_] KT)
      have hMkB := Blk.made (T := KT) (cs := #[.int .i64 t.kind, .string ⟨t.word.toArray⟩, .int .i64 t.num, .int .i64 t.at_]) w3
      have hszB : (w3.alloc (.cells #[.int .i64 t.kind, .string ⟨t.word.toArray⟩, .int .i64 t.num, .int .i64 t.at_] KT)).heap.size = w3.heap.size + 1 := by simp
      have hP4 := hP3.bel hbbB
      have hM4 := hM3.alloc (.cells #[.int .i64 t.kind, .string ⟨t.word.toArray⟩, .int .i64 t.num, .int .i64 t.at_] KT)
      have hZ4 := hZ3.alloc (.cells #[.int .i64 t.kind, .string ⟨t.word.toArray⟩, .int .i64 t.num, .int .i64 t.at_] KT)
      obtain ⟨W4, halB⟩ : ∃ W, w3.alloc (.cells #[.int .i64 t.kind, .string ⟨t.word.toArray⟩, .int .i64 t.num, .int .i64 t.at_] KT) = W := ⟨_, rfl⟩
      rw [halB] at hMkB hszB hP4 hM4 hZ4
      clear hbbB
      have p0 := hMkB.c 0 _ rfl
      have p1 := hMkB.c 1 _ rfl
      have p2 := hMkB.c 2 _ rfl
      have p3 := hMkB.c 3 _ rfl
      have hbbC := alloc_bel W4 (.cells #[.int .i64 3, .string ⟨t.word.toArray⟩, .int .i64 0, .slice none 0 0, .slice none 0 0, .int .i64 t.at_] NDT)
      have hMkC := Blk.made (T := NDT) (cs := #[.int .i64 3, .string ⟨t.word.toArray⟩, .int .i64 0, .slice none 0 0, .slice none 0 0, .int .i64 t.at_]) W4
      have hszC : (W4.alloc (.cells #[.int .i64 3, .string ⟨t.word.toArray⟩, .int .i64 0, .slice none 0 0, .slice none 0 0, .int .i64 t.at_] NDT)).heap.size = W4.heap.size + 1 := by simp
      have hP5 := hP4.bel hbbC
      have hM5 := hM4.alloc (.cells #[.int .i64 3, .string ⟨t.word.toArray⟩, .int .i64 0, .slice none 0 0, .slice none 0 0, .int .i64 t.at_] NDT)
      have hZ5 := hZ4.alloc (.cells #[.int .i64 3, .string ⟨t.word.toArray⟩, .int .i64 0, .slice none 0 0, .slice none 0 0, .int .i64 t.at_] NDT)
      have hK5 := hMkB.alloc (.cells #[.int .i64 3, .string ⟨t.word.toArray⟩, .int .i64 0, .slice none 0 0, .slice none 0 0, .int .i64 t.at_] NDT)
      obtain ⟨W5, halC⟩ : ∃ W, W4.alloc (.cells #[.int .i64 3, .string ⟨t.word.toArray⟩, .int .i64 0, .slice none 0 0, .slice none 0 0, .int .i64 t.at_] NDT) = W := ⟨_, rfl⟩
      rw [halC] at hMkC hszC hP5 hM5 hZ5 hK5
      clear hbbC
      have hZ5 : Blk NDT w.heap.size #[.int .i64 0, .string ⟨#[]⟩, .int .i64 0, .slice none 0 0, .slice none 0 0, .int .i64 0] W5 := hZ5
      rw [hszB] at hMkC
      clear hP3 hM3 hZ3 hP4 hM4 hZ4 hMkB
      have HP5 := Lib.hid hP5
      have HM5 := Lib.hid hM5
      have HZ5 := Lib.hid hZ5
      have k0 := hK5.c 0 _ rfl
      have k1 := hK5.c 1 _ rfl
      have k2 := hK5.c 2 _ rfl
      have k3 := hK5.c 3 _ rfl
      clear hP5 hM5 hZ5 hMkC hK5
      go_wp2_with fail
      refine (HC.out W5 HP5.out).mono ?_; intro e w6 ht
      clear k0 k1 k2 k3 p0 p1 p2 p3 halB halC
      cases R with
      | error y =>
       obtain ⟨rfl, hm⟩ := ht
       go_wp2_with fail
       exact ⟨rfl, rfl, HM5.out.trans hm⟩
      | ok y =>
       obtain ⟨n, a1⟩ := y
       obtain ⟨v, hv, rfl, hP6, hm6⟩ := ht
       obtain ⟨la, lc, ma, mc, rfl, hT, hN⟩ := hv.form
       have hs6 := hm6.size
       have hZ6 : Blk NDT w.heap.size #[.int .i64 0, .string ⟨#[]⟩, .int .i64 0, .slice none 0 0, .slice none 0 0, .int .i64 0] w6 := (hm6.block _ (by omega) (by omega)).trans HZ5.out
       have hM6 := HM5.out.trans hm6
       have hT1 := hT.mono (S' := fun j => New w j ∧ j ≠ w.heap.size) (fun j hj hl => by unfold New at *; omega)
       have hN1 := hN.mono (S' := fun j => New w j ∧ j ≠ w.heap.size) (fun j hj hl => by unfold New at *; omega)
       have z0 := hZ6.c 0 _ rfl
       have z1 := hZ6.c 1 _ rfl
       have z2 := hZ6.c 2 _ rfl
       have z3 := hZ6.c 3 _ rfl
       have z4 := hZ6.c 4 _ rfl
       have z5 := hZ6.c 5 _ rfl
       have zf := hZ6.fz
       have HP6 := Lib.hid hP6
       have HM6 := Lib.hid hM6
       have HT6 := Lib.hid hT1
       have HN6 := Lib.hid hN1
       clear hv hP6 hm6 hT hN hZ6 hM6 hT1 hN1
       unfold ndA
       go_wp2_with fail
       refine bodyPost_ret (v := .agg #[.int .i64 n.kind, .string ⟨n.name.toArray⟩, .int .i64 n.num, .slice la n.kids.length lc, .slice ma n.names.length mc, .int .i64 n.at_]) (by simp [results, Tryz.results249, go_sem, ndA, z0, z1, z2, z3, z4, z5]) rfl ?_
       refine ⟨_, ⟨_, _, rfl, (HT6.out.kp (kp_set6 ?_)).mono (fun j hj _ => hj.1), (HN6.out.kp (kp_set6 ?_)).mono (fun j hj _ => hj.1)⟩, rfl, pr_far6 HP6.out (by omega) (by omega), mv_set6 HM6.out (Nat.le_refl _)⟩
       all_goals simp
    · have h15 : t.kind = 15 := by omega
      have hd11 : (t.kind == 11) = false := by simp [h11]
      have hd15 : (t.kind == 15) = true := by simp [h15]
      clear h1 h2 h5 h6 h11 h15
      go_enter Tryz.func249, Tryz.ntmps249
      go_wp2_with fail
      refine HSI.out.mono ?_; intro e w1 ht
      obtain ⟨v, hv, rfl, hP1, hm1⟩ := ht
      obtain ⟨ka, kc, na, nc, rfl, hT, hN⟩ := hv.form
      have hs1 := hm1.size
      simp only [World.size_alloc] at hs1
      have hM1 := (Mv.of_bel (b := b) HX.out).trans hm1
      have hZ1 : Blk NDT w.heap.size z6 w1 := (hm1.block _ (by simp) (by omega)).trans (Blk.made w)
      have hP2 := hP1.bel (alloc_bel w1 (.cells (ndA (.mk 0 t.word t.num [] [] t.at_) ka kc na nc) NDT))
      have hM2 := hM1.alloc (.cells (ndA (.mk 0 t.word t.num [] [] t.at_) ka kc na nc) NDT)
      have hZ2 := hZ1.alloc (.cells (ndA (.mk 0 t.word t.num [] [] t.at_) ka kc na nc) NDT)
      unfold ndA
      unfold ndA at hP2 hM2 hZ2
      go_wp2_with fail
      refine (HNW.out _ hP2).mono ?_; rintro e w3 ⟨rfl, hb3⟩
      have hs3 := hb3.size
      simp only [World.size_alloc] at hs3
      have hP3 := hP2.bel hb3
      have hM3 := hM2.trans (Mv.of_bel hb3)
      have hZ3 := hZ2.below hb3 (by simp; omega)
      clear hv hP1 hm1 hT hN hM1 hZ1 hP2 hM2 hZ2 hb3
      have hbbB := alloc_bel w3 (.cells #[.int .i64 t.kind, .string ⟨t.word.toArray⟩, .int .i64 t.num, .int .i64 t.at_] KT)
      have hMkB := Blk.made (T := KT) (cs := #[.int .i64 t.kind, .string ⟨t.word.toArray⟩, .int .i64 t.num, .int .i64 t.at_]) w3
      have hszB : (w3.alloc (.cells #[.int .i64 t.kind, .string ⟨t.word.toArray⟩, .int .i64 t.num, .int .i64 t.at_] KT)).heap.size = w3.heap.size + 1 := by simp
      have hP4 := hP3.bel hbbB
      have hM4 := hM3.alloc (.cells #[.int .i64 t.kind, .string ⟨t.word.toArray⟩, .int .i64 t.num, .int .i64 t.at_] KT)
      have hZ4 := hZ3.alloc (.cells #[.int .i64 t.kind, .string ⟨t.word.toArray⟩, .int .i64 t.num, .int .i64 t.at_] KT)
      obtain ⟨W4, halB⟩ : ∃ W, w3.alloc (.cells #[.int .i64 t.kind, .string ⟨t.word.toArray⟩, .int .i64 t.num, .int .i64 t.at_] KT) = W := ⟨_, rfl⟩
      rw [halB] at hMkB hszB hP4 hM4 hZ4
      clear hbbB
      have p0 := hMkB.c 0 _ rfl
      have p1 := hMkB.c 1 _ rfl
      have p2 := hMkB.c 2 _ rfl
      have p3 := hMkB.c 3 _ rfl
      have hbbC := alloc_bel W4 (.cells #[.int .i64 3, .string ⟨t.word.toArray⟩, .int .i64 0, .slice none 0 0, .slice none 0 0, .int .i64 t.at_] NDT)
      have hMkC := Blk.made (T := NDT) (cs := #[.int .i64 3, .string ⟨t.word.toArray⟩, .int .i64 0, .slice none 0 0, .slice none 0 0, .int .i64 t.at_]) W4
      have hszC : (W4.alloc (.cells #[.int .i64 3, .string ⟨t.word.toArray⟩, .int .i64 0, .slice none 0 0, .slice none 0 0, .int .i64 t.at_] NDT)).heap.size = W4.heap.size + 1 := by simp
      have hP5 := hP4.bel hbbC
      have hM5 := hM4.alloc (.cells #[.int .i64 3, .string ⟨t.word.toArray⟩, .int .i64 0, .slice none 0 0, .slice none 0 0, .int .i64 t.at_] NDT)
      have hZ5 := hZ4.alloc (.cells #[.int .i64 3, .string ⟨t.word.toArray⟩, .int .i64 0, .slice none 0 0, .slice none 0 0, .int .i64 t.at_] NDT)
      have hK5 := hMkB.alloc (.cells #[.int .i64 3, .string ⟨t.word.toArray⟩, .int .i64 0, .slice none 0 0, .slice none 0 0, .int .i64 t.at_] NDT)
      obtain ⟨W5, halC⟩ : ∃ W, W4.alloc (.cells #[.int .i64 3, .string ⟨t.word.toArray⟩, .int .i64 0, .slice none 0 0, .slice none 0 0, .int .i64 t.at_] NDT) = W := ⟨_, rfl⟩
      rw [halC] at hMkC hszC hP5 hM5 hZ5 hK5
      clear hbbC
      have hZ5 : Blk NDT w.heap.size #[.int .i64 0, .string ⟨#[]⟩, .int .i64 0, .slice none 0 0, .slice none 0 0, .int .i64 0] W5 := hZ5
      rw [hszB] at hMkC
      clear hP3 hM3 hZ3 hP4 hM4 hZ4 hMkB
      have HP5 := Lib.hid hP5
      have HM5 := Lib.hid hM5
      have HZ5 := Lib.hid hZ5
      have k0 := hK5.c 0 _ rfl
      have k1 := hK5.c 1 _ rfl
      have k2 := hK5.c 2 _ rfl
      have k3 := hK5.c 3 _ rfl
      clear hP5 hM5 hZ5 hMkC hK5
      go_wp2_with fail
      refine (HC.out W5 HP5.out).mono ?_; intro e w6 ht
      clear k0 k1 k2 k3 p0 p1 p2 p3 halB halC
      cases R with
      | error y =>
       obtain ⟨rfl, hm⟩ := ht
       go_wp2_with fail
       exact ⟨rfl, rfl, HM5.out.trans hm⟩
      | ok y =>
       obtain ⟨n, a1⟩ := y
       obtain ⟨v, hv, rfl, hP6, hm6⟩ := ht
       obtain ⟨la, lc, ma, mc, rfl, hT, hN⟩ := hv.form
       have hs6 := hm6.size
       have hZ6 : Blk NDT w.heap.size #[.int .i64 0, .string ⟨#[]⟩, .int .i64 0, .slice none 0 0, .slice none 0 0, .int .i64 0] w6 := (hm6.block _ (by omega) (by omega)).trans HZ5.out
       have hM6 := HM5.out.trans hm6
       have hT1 := hT.mono (S' := fun j => New w j ∧ j ≠ w.heap.size) (fun j hj hl => by unfold New at *; omega)
       have hN1 := hN.mono (S' := fun j => New w j ∧ j ≠ w.heap.size) (fun j hj hl => by unfold New at *; omega)
       have z0 := hZ6.c 0 _ rfl
       have z1 := hZ6.c 1 _ rfl
       have z2 := hZ6.c 2 _ rfl
       have z3 := hZ6.c 3 _ rfl
       have z4 := hZ6.c 4 _ rfl
       have z5 := hZ6.c 5 _ rfl
       have zf := hZ6.fz
       have HP6 := Lib.hid hP6
       have HM6 := Lib.hid hM6
       have HT6 := Lib.hid hT1
       have HN6 := Lib.hid hN1
       clear hv hP6 hm6 hT hN hZ6 hM6 hT1 hN1
       unfold ndA
       go_wp2_with fail
       refine bodyPost_ret (v := .agg #[.int .i64 n.kind, .string ⟨n.name.toArray⟩, .int .i64 n.num, .slice la n.kids.length lc, .slice ma n.names.length mc, .int .i64 n.at_]) (by simp [results, Tryz.results249, go_sem, ndA, z0, z1, z2, z3, z4, z5]) rfl ?_
       refine ⟨_, ⟨_, _, rfl, (HT6.out.kp (kp_set6 ?_)).mono (fun j hj _ => hj.1), (HN6.out.kp (kp_set6 ?_)).mono (fun j hj _ => hj.1)⟩, rfl, pr_far6 HP6.out (by omega) (by omega), mv_set6 HM6.out (Nat.le_refl _)⟩
       all_goals simp
  have hd11 : (t.kind == 11) = false := by simp; omega
  have hd15 : (t.kind == 15) = false := by simp; omega
  have hR := HR.out
  rw [if_neg h1, if_neg h6, if_neg h2, if_neg h5] at hR
  subst hR
  clear h1 h2 h5 h6
  go_enter Tryz.func249, Tryz.ntmps249
  go_wp2_with fail
  refine HSI.out.mono ?_; intro e w1 ht
  obtain ⟨v, hv, rfl, hP1, hm1⟩ := ht
  obtain ⟨ka, kc, na, nc, rfl, hT, hN⟩ := hv.form
  have hs1 := hm1.size
  simp only [World.size_alloc] at hs1
  have hM1 := (Mv.of_bel (b := b) HX.out).trans hm1
  have hZ1 : Blk NDT w.heap.size z6 w1 := (hm1.block _ (by simp) (by omega)).trans (Blk.made w)
  have hP2 := hP1.bel (alloc_bel w1 (.cells (ndA (.mk 0 t.word t.num [] [] t.at_) ka kc na nc) NDT))
  have hM2 := hM1.alloc (.cells (ndA (.mk 0 t.word t.num [] [] t.at_) ka kc na nc) NDT)
  have hZ2 := hZ1.alloc (.cells (ndA (.mk 0 t.word t.num [] [] t.at_) ka kc na nc) NDT)
  unfold ndA
  unfold ndA at hP2 hM2 hZ2
  go_wp2_with fail
  refine (HNW.out _ hP2).mono ?_; rintro e w3 ⟨rfl, hb3⟩
  have hs3 := hb3.size
  simp only [World.size_alloc] at hs3
  have hP3 := hP2.bel hb3
  have hM3 := hM2.trans (Mv.of_bel hb3)
  have hZ3 := hZ2.below hb3 (by simp; omega)
  clear hv hP1 hm1 hT hN hM1 hZ1 hP2 hM2 hZ2 hb3
  have hbbB := alloc_bel w3 (.cells #[.int .i64 t.kind, .string ⟨t.word.toArray⟩, .int .i64 t.num, .int .i64 t.at_] KT)
  have hMkB := Blk.made (T := KT) (cs := #[.int .i64 t.kind, .string ⟨t.word.toArray⟩, .int .i64 t.num, .int .i64 t.at_]) w3
  have hszB : (w3.alloc (.cells #[.int .i64 t.kind, .string ⟨t.word.toArray⟩, .int .i64 t.num, .int .i64 t.at_] KT)).heap.size = w3.heap.size + 1 := by simp
  have hP4 := hP3.bel hbbB
  have hM4 := hM3.alloc (.cells #[.int .i64 t.kind, .string ⟨t.word.toArray⟩, .int .i64 t.num, .int .i64 t.at_] KT)
  have hZ4 := hZ3.alloc (.cells #[.int .i64 t.kind, .string ⟨t.word.toArray⟩, .int .i64 t.num, .int .i64 t.at_] KT)
  obtain ⟨W4, halB⟩ : ∃ W, w3.alloc (.cells #[.int .i64 t.kind, .string ⟨t.word.toArray⟩, .int .i64 t.num, .int .i64 t.at_] KT) = W := ⟨_, rfl⟩
  rw [halB] at hMkB hszB hP4 hM4 hZ4
  clear hbbB
  have p0 := hMkB.c 0 _ rfl
  have p1 := hMkB.c 1 _ rfl
  have p2 := hMkB.c 2 _ rfl
  have p3 := hMkB.c 3 _ rfl
  have hbbC := alloc_bel W4 (.cells #[.int .i64 3, .string ⟨t.word.toArray⟩, .int .i64 0, .slice none 0 0, .slice none 0 0, .int .i64 t.at_] NDT)
  have hMkC := Blk.made (T := NDT) (cs := #[.int .i64 3, .string ⟨t.word.toArray⟩, .int .i64 0, .slice none 0 0, .slice none 0 0, .int .i64 t.at_]) W4
  have hszC : (W4.alloc (.cells #[.int .i64 3, .string ⟨t.word.toArray⟩, .int .i64 0, .slice none 0 0, .slice none 0 0, .int .i64 t.at_] NDT)).heap.size = W4.heap.size + 1 := by simp
  have hP5 := hP4.bel hbbC
  have hM5 := hM4.alloc (.cells #[.int .i64 3, .string ⟨t.word.toArray⟩, .int .i64 0, .slice none 0 0, .slice none 0 0, .int .i64 t.at_] NDT)
  have hZ5 := hZ4.alloc (.cells #[.int .i64 3, .string ⟨t.word.toArray⟩, .int .i64 0, .slice none 0 0, .slice none 0 0, .int .i64 t.at_] NDT)
  have hK5 := hMkB.alloc (.cells #[.int .i64 3, .string ⟨t.word.toArray⟩, .int .i64 0, .slice none 0 0, .slice none 0 0, .int .i64 t.at_] NDT)
  obtain ⟨W5, halC⟩ : ∃ W, W4.alloc (.cells #[.int .i64 3, .string ⟨t.word.toArray⟩, .int .i64 0, .slice none 0 0, .slice none 0 0, .int .i64 t.at_] NDT) = W := ⟨_, rfl⟩
  rw [halC] at hMkC hszC hP5 hM5 hZ5 hK5
  clear hbbC
  have hZ5 : Blk NDT w.heap.size #[.int .i64 0, .string ⟨#[]⟩, .int .i64 0, .slice none 0 0, .slice none 0 0, .int .i64 0] W5 := hZ5
  rw [hszB] at hMkC
  clear hP3 hM3 hZ3 hP4 hM4 hZ4 hMkB
  have k0 := hK5.c 0 _ rfl
  have k1 := hK5.c 1 _ rfl
  have k2 := hK5.c 2 _ rfl
  have k3 := hK5.c 3 _ rfl
  have HP5 := Lib.hid hP5
  have HM5 := Lib.hid hM5
  clear hP5 hM5 hZ5 hMkC hK5
  go_wp2_with fail
  refine (HSP.out W5 HP5.out).mono ?_; rintro e w6 ⟨rfl, hm6⟩
  go_wp2_with fail
  exact ⟨rfl, rfl, HM5.out.trans hm6⟩
end
end Pa
end Go.Proofs.YtbdgoimbddlcoaaGreatDoor
