/- Package parse, the walk, 11: primary (wip/gen/gen_paw11.py prints this). · Package parse, the walk, 12: within; expression (wip/gen/gen_paw12.py prints this). · Package parse, the walk, 13: expression (wip/gen/gen_paw13.py prints this). · Package parse, the walk, 14: expression, outside (wip/gen/gen_paw14.py prints this). · Package parse, the walk, 17: list (wip/gen/gen_paw17.py prints this). · append of strings that lie elsewhere (out of TrNds). -/
import Derived.Test.YtmmgfifpjifjnaaGreatDoorPaX2
set_option linter.unusedVariables false
namespace Go.Proofs.YtmmgfifpjifjnaaGreatDoor
open Go.RowKit
namespace Pa
open Bs Sm Tr
open Lx (Mv)
section
variable {b : Nat} {L : List Pt} {tb tc : Nat} {bad : Int} {a d f : Nat} {w w' w0 : World} {S S' : Nat → Prop} {K : Nat} {x : Nd}
theorem simpleB_some {y : Nd × Nat} (h : simpleP L a = some y) : simpleB L a = (y.1, true, y.2) := by unfold simpleB; rw [h]
theorem simpleB_none (h : simpleP L a = none) : simpleB L a = (.mk 0 (now L a).word (now L a).num [] [] (now L a).at_, false, a) := by unfold simpleB; rw [h]
set_option maxRecDepth 100000 in
set_option maxHeartbeats 3200000 in
theorem prim_step (hL : LOk L) (h : PA L bad f) (hP : Pr b L tb tc bad a d w) (ha : a < L.length) (hd : d ≤ 40) (hf : 16 * (L.length - a) + 2 ≤ f + 1) :
  Calls Tryz.prog 191 #[.pointer (some ⟨b, 0, none⟩)] w (NdO b L tb tc bad d (New w) (primP L bad (f + 1) d a) w) := by
 have hlen := hL.len
 have hbl := hP.blk.lt
 have htl := hP.lt
 have hX := alloc_bel w (.cells z6 NDT)
 have HSI := simple_any hL (hP.bel hX) ha
 obtain ⟨R, hR⟩ : ∃ R, primP L bad (f + 1) d a = R := ⟨_, rfl⟩
 rw [hR]
 rw [primP] at hR
 have HX := Lib.hid hX
 cases hs : simpleP L a with
 | some y =>
  rw [simpleB_some hs] at HSI
  rw [hs] at hR
  simp only at hR
  subst hR
  have HSI := Lib.hid HSI
  clear hs hX h hL hP
  go_enter Tryz.func191, Tryz.ntmps191
  go_wp2_with fail
  refine HSI.out.mono ?_; intro e w1 ht
  obtain ⟨v, hv, rfl, hP1, hm1⟩ := ht
  obtain ⟨ka, kc, na, nc, rfl, hT, hN⟩ := hv.form
  have hs1 := hm1.size
  simp only [World.size_alloc] at hs1
  have hM1 := (Mv.of_bel (b := b) HX.out).trans hm1
  have hZ1 : Blk NDT w.heap.size #[.int .i64 0, .string ⟨#[]⟩, .int .i64 0, .slice none 0 0, .slice none 0 0, .int .i64 0] w1 := (hm1.block _ (by simp) (by omega)).trans (Blk.made w)
  have hT1 := hT.mono (S' := fun j => New w j ∧ j ≠ w.heap.size) (fun j hj hl => by unfold New at *; simp at hj; omega)
  have hN1 := hN.mono (S' := fun j => New w j ∧ j ≠ w.heap.size) (fun j hj hl => by unfold New at *; simp at hj; omega)
  have hbbA := alloc_bel w1 (.cells #[.int .i64 y.1.kind, .string ⟨y.1.name.toArray⟩, .int .i64 y.1.num, .slice ka y.1.kids.length kc, .slice na y.1.names.length nc, .int .i64 y.1.at_] NDT)
  have hMkA := Blk.made (T := NDT) (cs := #[.int .i64 y.1.kind, .string ⟨y.1.name.toArray⟩, .int .i64 y.1.num, .slice ka y.1.kids.length kc, .slice na y.1.names.length nc, .int .i64 y.1.at_]) w1
  have hszA : (w1.alloc (.cells #[.int .i64 y.1.kind, .string ⟨y.1.name.toArray⟩, .int .i64 y.1.num, .slice ka y.1.kids.length kc, .slice na y.1.names.length nc, .int .i64 y.1.at_] NDT)).heap.size = w1.heap.size + 1 := by simp
  have hP2 := hP1.bel hbbA
  have hM2 := hM1.alloc (.cells #[.int .i64 y.1.kind, .string ⟨y.1.name.toArray⟩, .int .i64 y.1.num, .slice ka y.1.kids.length kc, .slice na y.1.names.length nc, .int .i64 y.1.at_] NDT)
  have hZ2 := hZ1.alloc (.cells #[.int .i64 y.1.kind, .string ⟨y.1.name.toArray⟩, .int .i64 y.1.num, .slice ka y.1.kids.length kc, .slice na y.1.names.length nc, .int .i64 y.1.at_] NDT)
  have hT2 := hT1.bel hbbA
  have hN2 := hN1.below hbbA
  obtain ⟨W2, halA⟩ : ∃ W, w1.alloc (.cells #[.int .i64 y.1.kind, .string ⟨y.1.name.toArray⟩, .int .i64 y.1.num, .slice ka y.1.kids.length kc, .slice na y.1.names.length nc, .int .i64 y.1.at_] NDT) = W := ⟨_, rfl⟩
  rw [halA] at hMkA hszA hP2 hM2 hZ2 hT2 hN2
  clear hbbA
  have e0 := hMkA.c 0 _ rfl
  have e1 := hMkA.c 1 _ rfl
  have e2 := hMkA.c 2 _ rfl
  have e3 := hMkA.c 3 _ rfl
  have e4 := hMkA.c 4 _ rfl
  have e5 := hMkA.c 5 _ rfl
  have z0 := hZ2.c 0 _ rfl
  have z1 := hZ2.c 1 _ rfl
  have z2 := hZ2.c 2 _ rfl
  have z3 := hZ2.c 3 _ rfl
  have z4 := hZ2.c 4 _ rfl
  have z5 := hZ2.c 5 _ rfl
  have zf := hZ2.fz
  have HP2 := Lib.hid hP2
  have HM2 := Lib.hid hM2
  have HT2 := Lib.hid hT2
  have HN2 := Lib.hid hN2
  clear hv hm1 hP1 hT hN hZ1 hM1 hT1 hN1 hP2 hM2 hZ2 hT2 hN2 hMkA
  unfold ndA
  go_wp2_with fail
  refine bodyPost_ret (v := .agg #[.int .i64 y.1.kind, .string ⟨y.1.name.toArray⟩, .int .i64 y.1.num, .slice ka y.1.kids.length kc, .slice na y.1.names.length nc, .int .i64 y.1.at_]) (by simp [results, Tryz.results191, go_sem, ndA, z0, z1, z2, z3, z4, z5]) rfl ?_
  refine ⟨_, ⟨_, _, rfl, (HT2.out.kp (kp_set6 ?_)).mono (fun j hj _ => hj.1), (HN2.out.kp (kp_set6 ?_)).mono (fun j hj _ => hj.1)⟩, rfl, pr_far6 HP2.out (by omega) (by omega), mv_set6 HM2.out (Nat.le_refl _)⟩
  all_goals simp
 | none =>
  rw [simpleB_none hs] at HSI
  rw [hs] at hR
  simp only at hR
  have hkn := fun (k : Int) (hk : 0 < k) (he : isK L k a = true) => hL.next he hk ha
  have HH := Lib.hid h
  have HSI := Lib.hid HSI
  have HNW := fun (w' : World) (hp : Pr b L tb tc bad a d w') => now_any hp ha
  have HSP := fun (w' : World) (hp : Pr b L tb tc bad a d w') => stop_any hp ha
  have HKD : ∀ k : Int, isK L k a = ((now L a).kind == k) := fun k => rfl
  have hpl := hL.pl a ha
  have HTK := fun (k : Int) (w' : World) (a' : Nat) (ha' : a' < L.length) (hp : Pr b L tb tc bad a' d w') => take_any hp ha' hlen k
  have HEX := fun (f' : Nat) (a' : Nat) (ha' : a' < L.length) => (PB.all (bad := bad) hL f').expr d a' ha'
  obtain ⟨t, ht⟩ : ∃ t, now L a = t := ⟨_, rfl⟩
  rw [HKD, HKD, HKD, ht] at hpl
  have HPL := Lib.hid hpl
  clear hpl
  rw [ht] at HSI HNW HKD hR
  have HR := Lib.hid hR
  replace HNW := Lib.hid HNW
  replace HSP := Lib.hid HSP
  replace HTK := Lib.hid HTK
  replace HEX := Lib.hid HEX
  clear hs hX h hL hP hR ht
  unfold ptV at HNW
  by_cases h1 : t.kind = 1
  · have hd1 : (t.kind == 1) = true := by simp [h1]
    have hk1 := hkn 1 (by omega) (by rw [HKD]; exact hd1)
    have H1 := Lib.hid h1
    clear h1
    have hR := HR.out
    rw [HKD, if_pos hd1] at hR
    subst hR
    go_enter Tryz.func191, Tryz.ntmps191
    go_wp2_with fail
    refine HSI.out.mono ?_; intro e w1 ht
    obtain ⟨v, hv, rfl, hP1, hm1⟩ := ht
    obtain ⟨ka, kc, na, nc, rfl, hT, hN⟩ := hv.form
    have hs1 := hm1.size
    simp only [World.size_alloc] at hs1
    have hM1 := (Mv.of_bel (b := b) HX.out).trans hm1
    have hZ1 : Blk NDT w.heap.size z6 w1 := (hm1.block _ (by simp) (by omega)).trans (Blk.made w)
    have hP2 := hP1.bel (alloc_bel w1 (.cells (ndA (.mk 0 t.word t.num [] [] t.at_) ka kc na nc) NDT))
    have hM2 := hM1.alloc (.cells (ndA (.mk 0 t.word t.num [] [] t.at_) ka kc na nc) NDT)
    have hZ2 := hZ1.alloc (.cells (ndA (.mk 0 t.word t.num [] [] t.at_) ka kc na nc) NDT)
    unfold ndA
    unfold ndA at hP2 hM2 hZ2
    go_wp2_with fail
    refine (HNW.out _ hP2).mono ?_; rintro e w3 ⟨rfl, hb3⟩
    have hs3 := hb3.size
    simp only [World.size_alloc] at hs3
    have hP3 := hP2.bel hb3
    have hM3 := hM2.trans (Mv.of_bel hb3)
    have hZ3 := hZ2.below hb3 (by simp; omega)
    clear hv hP1 hm1 hT hN hM1 hZ1 hP2 hM2 hZ2 hb3
    have hbbB := alloc_bel w3 (.cells #[.int .i64 t.kind, .string ⟨t.word.toArray⟩, .int .i64 t.num, .int .i64 t.at_] KT)
    have hMkB := Blk.made (T := KT) (cs := #[.int .i64 t.kind, .string ⟨t.word.toArray⟩, .int .i64 t.num, .int .i64 t.at_]) w3
    have hszB : (w3.alloc (.cells #[.int .i64 t.kind, .string ⟨t.word.toArray⟩, .int .i64 t.num, .int .i64 t.at_] KT)).heap.size = w3.heap.size + 1 := by simp
    have hP4 := hP3.bel hbbB
    have hM4 := hM3.alloc (.cells #[.int .i64 t.kind, .string ⟨t.word.toArray⟩, .int .i64 t.num, .int .i64 t.at_] KT)
    have hZ4 := hZ3.alloc (.cells #[.int .i64 t.kind, .string ⟨t.word.toArray⟩, .int .i64 t.num, .int .i64 t.at_] KT)
    obtain ⟨W4, halB⟩ : ∃ W, w3.alloc (.cells #[.int .i64 t.kind, .string ⟨t.word.toArray⟩, .int .i64 t.num, .int .i64 t.at_] KT) = W := ⟨_, rfl⟩
    rw [halB] at hMkB hszB hP4 hM4 hZ4
    clear hbbB
    have hZ4 : Blk NDT w.heap.size #[.int .i64 0, .string ⟨#[]⟩, .int .i64 0, .slice none 0 0, .slice none 0 0, .int .i64 0] W4 := hZ4
    have k0 := hMkB.c 0 _ rfl
    have k1 := hMkB.c 1 _ rfl
    have k2 := hMkB.c 2 _ rfl
    have k3 := hMkB.c 3 _ rfl
    have z0 := hZ4.c 0 _ rfl
    have z1 := hZ4.c 1 _ rfl
    have z2 := hZ4.c 2 _ rfl
    have z3 := hZ4.c 3 _ rfl
    have z4 := hZ4.c 4 _ rfl
    have z5 := hZ4.c 5 _ rfl
    have zf := hZ4.fz
    have c2 := hP4.c2
    have f2 := hP4.blk.fz 2
    have wa : IntKind.i64.wrap ((a : Int) + 1) = (a : Int) + 1 := IntWalk.i64_in _ (by omega)
    have n1 : ¬ w3.heap.size = b := by omega
    have n2 : ¬ w.heap.size = b := by omega
    have n3 : ¬ b = w.heap.size := by omega
    have HP4 := Lib.hid hP4
    have HM4 := Lib.hid hM4
    clear hP3 hM3 hZ3 hP4 hM4 hZ4 hMkB
    go_wp2_with fail
    refine bodyPost_ret (v := .agg #[.int .i64 5, .string ⟨t.word.toArray⟩, .int .i64 0, .slice none 0 0, .slice none 0 0, .int .i64 t.at_]) (by simp [results, Tryz.results191, go_sem, ndA, z0, z1, z2, z3, z4, z5]) rfl ?_
    exact ⟨_, NdAt.leaf _ _ 5 0 t.at_ t.word, rfl, pr_far6 (HP4.out.setA (a + 1)) (by omega) (by omega), mv_set6 (HM4.out.set_ 2 _) (Nat.le_refl _)⟩
  have hd1 : (t.kind == 1) = false := by simp [h1]
  by_cases h11 : t.kind = 11
  · have h := HPL.out.2.1
    rw [h11] at h
    cases h
  have hd11 : (t.kind == 11) = false := by simp [h11]
  by_cases h13 : t.kind = 13
  · have hd13 : (t.kind == 13) = true := by simp [h13]
    have hkk : isK L 13 a = true := by rw [HKD]; exact hd13
    have H13 := Lib.hid h13
    clear h13
    have hR := HR.out
    rw [HKD, if_neg (by rw [hd1]; simp), HKD, if_neg (by rw [hd11]; simp), HKD, if_pos hd13] at hR
    have HC := fun (w' : World) (hp : Pr b L tb tc bad a d w') => HH.out.block hp ha hd hkk (by omega)
    rw [hR] at HC
    replace HC := Lib.hid HC
    clear hR
    go_enter Tryz.func191, Tryz.ntmps191
    go_wp2_with fail
    refine HSI.out.mono ?_; intro e w1 ht
    obtain ⟨v, hv, rfl, hP1, hm1⟩ := ht
    obtain ⟨ka, kc, na, nc, rfl, hT, hN⟩ := hv.form
    have hs1 := hm1.size
    simp only [World.size_alloc] at hs1
    have hM1 := (Mv.of_bel (b := b) HX.out).trans hm1
    have hZ1 : Blk NDT w.heap.size z6 w1 := (hm1.block _ (by simp) (by omega)).trans (Blk.made w)
    have hP2 := hP1.bel (alloc_bel w1 (.cells (ndA (.mk 0 t.word t.num [] [] t.at_) ka kc na nc) NDT))
    have hM2 := hM1.alloc (.cells (ndA (.mk 0 t.word t.num [] [] t.at_) ka kc na nc) NDT)
    have hZ2 := hZ1.alloc (.cells (ndA (.mk 0 t.word t.num [] [] t.at_) ka kc na nc) NDT)
    unfold ndA
    unfold ndA at hP2 hM2 hZ2
    go_wp2_with fail
    refine (HNW.out _ hP2).mono ?_; rintro e w3 ⟨rfl, hb3⟩
    have hs3 := hb3.size
    simp only [World.size_alloc] at hs3
    have hP3 := hP2.bel hb3
    have hM3 := hM2.trans (Mv.of_bel hb3)
    have hZ3 := hZ2.below hb3 (by simp; omega)
    clear hv hP1 hm1 hT hN hM1 hZ1 hP2 hM2 hZ2 hb3
    have hbbB := alloc_bel w3 (.cells #[.int .i64 t.kind, .string ⟨t.word.toArray⟩, .int .i64 t.num, .int .i64 t.at_] KT)
    have hMkB := Blk.made (T := KT) (cs := #[.int .i64 t.kind, .string ⟨t.word.toArray⟩, .int .i64 t.num, .int .i64 t.at_]) w3
    have hszB : (w3.alloc (.cells #[.int .i64 t.kind, .string ⟨t.word.toArray⟩, .int .i64 t.num, .int .i64 t.at_] KT)).heap.size = w3.heap.size + 1 := by simp
    have hP4 := hP3.bel hbbB
    have hM4 := hM3.alloc (.cells #[.int .i64 t.kind, .string ⟨t.word.toArray⟩, .int .i64 t.num, .int .i64 t.at_] KT)
    have hZ4 := hZ3.alloc (.cells #[.int .i64 t.kind, .string ⟨t.word.toArray⟩, .int .i64 t.num, .int .i64 t.at_] KT)
    obtain ⟨W4, halB⟩ : ∃ W, w3.alloc (.cells #[.int .i64 t.kind, .string ⟨t.word.toArray⟩, .int .i64 t.num, .int .i64 t.at_] KT) = W := ⟨_, rfl⟩
    rw [halB] at hMkB hszB hP4 hM4 hZ4
    clear hbbB
    have hZ4 : Blk NDT w.heap.size #[.int .i64 0, .string ⟨#[]⟩, .int .i64 0, .slice none 0 0, .slice none 0 0, .int .i64 0] W4 := hZ4
    have k0 := hMkB.c 0 _ rfl
    have k1 := hMkB.c 1 _ rfl
    have k2 := hMkB.c 2 _ rfl
    have k3 := hMkB.c 3 _ rfl
    have HP4 := Lib.hid hP4
    have HM4 := Lib.hid hM4
    have HZ4 := Lib.hid hZ4
    clear hP3 hM3 hZ3 hP4 hM4 hZ4 hMkB
    go_wp2_with fail
    refine (HC.out W4 HP4.out).mono ?_; intro e w5 ht
    clear k0 k1 k2 k3 halB
    cases R with
    | error y =>
     obtain ⟨rfl, hm⟩ := ht
     go_wp2_with fail
     exact ⟨rfl, rfl, HM4.out.trans hm⟩
    | ok y =>
     obtain ⟨n, a1⟩ := y
     obtain ⟨v, hv, rfl, hP5, hm5⟩ := ht
     obtain ⟨la, lc, ma, mc, rfl, hT, hN⟩ := hv.form
     have hs5 := hm5.size
     have hZ5 : Blk NDT w.heap.size #[.int .i64 0, .string ⟨#[]⟩, .int .i64 0, .slice none 0 0, .slice none 0 0, .int .i64 0] w5 := (hm5.block _ (by omega) (by omega)).trans HZ4.out
     have hM5 := HM4.out.trans hm5
     have hT1 := hT.mono (S' := fun j => New w j ∧ j ≠ w.heap.size) (fun j hj hl => by unfold New at *; omega)
     have hN1 := hN.mono (S' := fun j => New w j ∧ j ≠ w.heap.size) (fun j hj hl => by unfold New at *; omega)
     have z0 := hZ5.c 0 _ rfl
     have z1 := hZ5.c 1 _ rfl
     have z2 := hZ5.c 2 _ rfl
     have z3 := hZ5.c 3 _ rfl
     have z4 := hZ5.c 4 _ rfl
     have z5 := hZ5.c 5 _ rfl
     have zf := hZ5.fz
     have HP5 := Lib.hid hP5
     have HM5 := Lib.hid hM5
     have HT5 := Lib.hid hT1
     have HN5 := Lib.hid hN1
     clear hv hP5 hm5 hT hN hZ5 hM5 hT1 hN1
     unfold ndA
     go_wp2_with fail
     refine bodyPost_ret (v := .agg #[.int .i64 n.kind, .string ⟨n.name.toArray⟩, .int .i64 n.num, .slice la n.kids.length lc, .slice ma n.names.length mc, .int .i64 n.at_]) (by simp [results, Tryz.results191, go_sem, ndA, z0, z1, z2, z3, z4, z5]) rfl ?_
     refine ⟨_, ⟨_, _, rfl, (HT5.out.kp (kp_set6 ?_)).mono (fun j hj _ => hj.1), (HN5.out.kp (kp_set6 ?_)).mono (fun j hj _ => hj.1)⟩, rfl, pr_far6 HP5.out (by omega) (by omega), mv_set6 HM5.out (Nat.le_refl _)⟩
     all_goals simp
  have hd13 : (t.kind == 13) = false := by simp [h13]
  by_cases h15 : t.kind = 15
  · have h := HPL.out.2.2.1
    rw [h15] at h
    cases h
  have hd15 : (t.kind == 15) = false := by simp [h15]
  have hR := HR.out
  rw [HKD, if_neg (by rw [hd1]; simp), HKD, if_neg (by rw [hd11]; simp), HKD, if_neg (by rw [hd13]; simp), HKD, if_neg (by rw [hd15]; simp)] at hR
  subst hR
  go_enter Tryz.func191, Tryz.ntmps191
  go_wp2_with fail
  refine HSI.out.mono ?_; intro e w1 ht
  obtain ⟨v, hv, rfl, hP1, hm1⟩ := ht
  obtain ⟨ka, kc, na, nc, rfl, hT, hN⟩ := hv.form
  have hs1 := hm1.size
  simp only [World.size_alloc] at hs1
  have hM1 := (Mv.of_bel (b := b) HX.out).trans hm1
  have hZ1 : Blk NDT w.heap.size z6 w1 := (hm1.block _ (by simp) (by omega)).trans (Blk.made w)
  have hP2 := hP1.bel (alloc_bel w1 (.cells (ndA (.mk 0 t.word t.num [] [] t.at_) ka kc na nc) NDT))
  have hM2 := hM1.alloc (.cells (ndA (.mk 0 t.word t.num [] [] t.at_) ka kc na nc) NDT)
  have hZ2 := hZ1.alloc (.cells (ndA (.mk 0 t.word t.num [] [] t.at_) ka kc na nc) NDT)
  unfold ndA
  unfold ndA at hP2 hM2 hZ2
  go_wp2_with fail
  refine (HNW.out _ hP2).mono ?_; rintro e w3 ⟨rfl, hb3⟩
  have hs3 := hb3.size
  simp only [World.size_alloc] at hs3
  have hP3 := hP2.bel hb3
  have hM3 := hM2.trans (Mv.of_bel hb3)
  have hZ3 := hZ2.below hb3 (by simp; omega)
  clear hv hP1 hm1 hT hN hM1 hZ1 hP2 hM2 hZ2 hb3
  have hbbB := alloc_bel w3 (.cells #[.int .i64 t.kind, .string ⟨t.word.toArray⟩, .int .i64 t.num, .int .i64 t.at_] KT)
  have hMkB := Blk.made (T := KT) (cs := #[.int .i64 t.kind, .string ⟨t.word.toArray⟩, .int .i64 t.num, .int .i64 t.at_]) w3
  have hszB : (w3.alloc (.cells #[.int .i64 t.kind, .string ⟨t.word.toArray⟩, .int .i64 t.num, .int .i64 t.at_] KT)).heap.size = w3.heap.size + 1 := by simp
  have hP4 := hP3.bel hbbB
  have hM4 := hM3.alloc (.cells #[.int .i64 t.kind, .string ⟨t.word.toArray⟩, .int .i64 t.num, .int .i64 t.at_] KT)
  have hZ4 := hZ3.alloc (.cells #[.int .i64 t.kind, .string ⟨t.word.toArray⟩, .int .i64 t.num, .int .i64 t.at_] KT)
  obtain ⟨W4, halB⟩ : ∃ W, w3.alloc (.cells #[.int .i64 t.kind, .string ⟨t.word.toArray⟩, .int .i64 t.num, .int .i64 t.at_] KT) = W := ⟨_, rfl⟩
  rw [halB] at hMkB hszB hP4 hM4 hZ4
  clear hbbB
  have hZ4 : Blk NDT w.heap.size #[.int .i64 0, .string ⟨#[]⟩, .int .i64 0, .slice none 0 0, .slice none 0 0, .int .i64 0] W4 := hZ4
  have k0 := hMkB.c 0 _ rfl
  have k1 := hMkB.c 1 _ rfl
  have k2 := hMkB.c 2 _ rfl
  have k3 := hMkB.c 3 _ rfl
  have HP4 := Lib.hid hP4
  have HM4 := Lib.hid hM4
  clear hP3 hM3 hZ3 hP4 hM4 hZ4 hMkB
  go_wp2_with fail
  refine (HSP.out W4 HP4.out).mono ?_; rintro e w5 ⟨rfl, hm5⟩
  go_wp2_with fail
  exact ⟨rfl, rfl, HM4.out.trans hm5⟩
end
end Pa
end Go.Proofs.YtmmgfifpjifjnaaGreatDoor
namespace Go.Proofs.YtmmgfifpjifjnaaGreatDoor
open Go.RowKit
namespace Pa
open Bs Sm Tr
open Lx (Mv)
section
variable {b : Nat} {L : List Pt} {tb tc : Nat} {bad : Int} {a d f : Nat} {w w' w0 : World} {S S' : Nat → Prop} {K : Nat} {x : Nd}
abbrev PPT : Nat := 90
theorem But.of_mv {X : Nat → Prop} (h : Mv b w w') (hX : X b) : But X w w' := ⟨h.os, h.tape, h.output, h.size, fun k hk hx => h.block k hk (fun e => hx (e ▸ hX))⟩
theorem But.mv {X : Nat → Prop} (h : But X w w') (hX : ∀ k, X k → k = b ∨ w0.heap.size ≤ k) (hm : Mv b w0 w) : Mv b w0 w' :=
 ⟨h.os.trans hm.os, h.tape.trans hm.tape, h.output.trans hm.output, Nat.le_trans hm.size h.size, fun k hk hne => (h.block k (Nat.lt_of_lt_of_le hk hm.size) (fun hx => by rcases hX k hx with e | e; exact hne e; omega)).trans (hm.block k hk hne)⟩
def CloO (b : Nat) (L : List Pt) (tb tc : Nat) (bad : Int) (d k : Nat) (S : Nat → Prop) (x : PE (Nd × Nat)) (w : World) (e : Ending) (w' : World) : Prop :=
 match x with
 | .error E => e = .panicked [{ v := fltP E.1 E.2, recovered := false }] ∧ But (fun j => j = b ∨ j = k) w w'
 | .ok (n, a) => e = .returned (.tuple #[]) ∧ Pr b L tb tc bad a d w' ∧ NBlk S k n w' ∧ But (fun j => j = b ∨ j = k) w w'
set_option maxRecDepth 100000 in
set_option maxHeartbeats 1600000 in
theorem within_any {kf k1 k2 : Nat} {x : PE (Nd × Nat)} (hen : Ent kf) (hL : LOk L) (hP : Pr b L tb tc bad a d w) (ha : a < L.length) (hd : d ≤ 40) (hkb : k2 ≠ b) (hSb : ¬ S b)
  (HC : ∀ W, Pr b L tb tc bad a (d + 1) W → d + 1 ≤ 40 → Mv b w W → Calls Tryz.prog kf #[.pointer (some ⟨k1, 0, none⟩), .pointer (some ⟨k2, 0, none⟩)] W (CloO b L tb tc bad (d + 1) k2 S x W)) :
  Calls Tryz.prog 151 #[.pointer (some ⟨b, 0, none⟩), .func (.func kf) #[] #[.pointer (some ⟨k1, 0, none⟩), .pointer (some ⟨k2, 0, none⟩)]] w
   (CloO b L tb tc bad d k2 S (if 40 < d + 1 then .error (deepE L bad a) else x) w) := by
 unfold Ent at hen
 have c3 := hP.c3
 have f3 := hP.blk.fz 3
 have wd : IntKind.i64.wrap ((d : Int) + 1) = (d : Int) + 1 := IntWalk.i64_in _ (by omega)
 have wd2 : IntKind.i64.wrap (((d + 1 : Nat) : Int) - 1) = (d : Int) := by rw [show ((d + 1 : Nat) : Int) - 1 = (d : Int) by omega]; exact IntWalk.i64_in _ (by omega)
 have wd3 : IntKind.i64.wrap ((d : Int) + 1 - 1) = (d : Int) := by rw [show (d : Int) + 1 - 1 = (d : Int) by omega]; exact IntWalk.i64_in _ (by omega)
 obtain ⟨W1, hW1⟩ : ∃ W, w.setCell ⟨b, 3, none⟩ (.int .i64 ((d : Int) + 1)) = W := ⟨_, rfl⟩
 have hP1 : Pr b L tb tc bad a (d + 1) W1 := by rw [← hW1]; exact hP.setD (d + 1)
 have hM1 : Mv b w W1 := by rw [← hW1]; exact (Mv.refl b w).set_ 3 _
 have q3 : W1.cell? ⟨b, 3, none⟩ = some (.int .i64 ((d : Int) + 1)) := hP1.c3
 by_cases hdd : 40 < d + 1
 · rw [if_pos hdd]
   have h40 : decide ((40 : Int) < (d : Int) + 1) = true := by rw [decide_eq_true_eq]; omega
   have h40b : (40 : Int) < (d : Int) + 1 := by omega
   have HN := fun w' (hb : Below W1.heap.size W1 w') => now_any (hP1.bel hb) ha
   have HST := fun w' (hb : Below W1.heap.size W1 w') => stop_any (hP1.bel hb) ha
   unfold deepE
   obtain ⟨SE, hSE⟩ : ∃ s, stopE L bad a = s := ⟨_, rfl⟩
   rw [hSE] at HST
   rw [hSE]
   obtain ⟨t, ht⟩ : ∃ t, now L a = t := ⟨_, rfl⟩
   rw [ht] at HN ⊢
   replace HN := Lib.hid HN
   replace HST := Lib.hid HST
   have HM1 := Lib.hid hM1
   have F0 := fld0
   have F3 := fld3
   clear HC hP hP1 hM1 ht hSE hL hdd
   unfold ptV at HN
   by_cases hk : t.kind < 0
   · rw [if_pos hk]
     go_enter Tryz.func151, Tryz.ntmps151
     go_wp2_with fail
     refine (HN.out W1 (Below.refl _ _)).mono ?_; rintro e w2 ⟨rfl, hb2⟩
     go_wp2_with fail
     refine (HST.out w2 hb2).mono ?_; rintro e w3 ⟨rfl, hm3⟩
     go_wp2_with fail
     exact ⟨rfl, rfl, But.of_mv ((HM1.out.trans (Mv.of_bel hb2)).trans hm3) (.inl rfl)⟩
   rw [if_neg hk]
   go_enter Tryz.func151, Tryz.ntmps151
   go_wp2_with fail
   refine (HN.out W1 (Below.refl _ _)).mono ?_; rintro e w2 ⟨rfl, hb2⟩
   go_wp2_with fail
   refine (HN.out w2 hb2).mono ?_; rintro e w3 ⟨rfl, hb3⟩
   go_wp2_with fail
   exact ⟨rfl, rfl, But.of_mv ((HM1.out.trans (Mv.of_bel hb2)).trans (Mv.of_bel hb3)) (.inl rfl)⟩
 rw [if_neg hdd]
 have h40 : decide ((40 : Int) < (d : Int) + 1) = false := by rw [decide_eq_false_iff_not]; omega
 have h40b : ¬ (40 : Int) < (d : Int) + 1 := by omega
 have HCL := Lib.hid (HC W1 hP1 (by omega) hM1)
 have HM1 := Lib.hid hM1
 clear HC hP hP1 hM1 hdd
 go_enter Tryz.func151, Tryz.ntmps151
 go_wp2_with fail
 refine HCL.out.mono ?_; intro e w2 ht
 cases x with
 | error E =>
  obtain ⟨rfl, hm⟩ := ht
  go_wp2_with fail
  exact ⟨rfl, rfl, (But.of_mv HM1.out (.inl rfl)).trans hm⟩
 | ok y =>
  obtain ⟨n, a1⟩ := y
  obtain ⟨rfl, hP2, hN2, hm2⟩ := ht
  have c3' := hP2.c3
  have f3' := hP2.blk.fz 3
  go_wp2_with fail
  go_end0
  exact ⟨rfl, hP2.setD d, hN2.kp (kp_set 3 hSb _) (Below.heap_setCell w2 ⟨b, 3, none⟩ _ k2 hkb), ((But.of_mv HM1.out (.inl rfl)).trans hm2).set_ (k := b) (.inl rfl) 3 _⟩
end
end Pa
end Go.Proofs.YtmmgfifpjifjnaaGreatDoor
namespace Go.Proofs.YtmmgfifpjifjnaaGreatDoor
open Go.RowKit
namespace Pa
open Bs Sm Tr
open Lx (Mv)
section
variable {b : Nat} {L : List Pt} {tb tc : Nat} {bad : Int} {a d f : Nat} {w w' w0 : World} {S S' : Nat → Prop} {K : Nat} {x : Nd}
def innerP (L : List Pt) (bad : Int) (f d a : Nat) : PE (Nd × Nat) :=
 if (isK L 1 a && (ahead L a).kind == 7) = true then (exprP L bad f d (a + 2) >>= fun r => .ok (.mk 6 (now L a).word 0 [r.1] [] (now L a).at_, r.2)) else cascP L bad f d a
theorem inner_eq (f d a : Nat) : exprP L bad (f + 1) d a = if 40 < d + 1 then .error (deepE L bad a) else innerP L bad f (d + 1) a := by
 rw [exprP]
 by_cases h : 40 < d + 1
 · rw [if_pos h, if_pos h]
 rw [if_neg h, if_neg h]
 unfold innerP
 by_cases hk : (isK L 1 a && (ahead L a).kind == 7) = true
 · rw [if_pos hk]
 rw [if_neg hk]
set_option maxRecDepth 100000 in
set_option maxHeartbeats 3200000 in
theorem clo_expr {k1 k2 : Nat} (hL : LOk L) (h : PA L bad f) (hP : Pr b L tb tc bad a d w) (ha : a < L.length) (hd : d ≤ 40) (hf : 16 * (L.length - a) + 7 ≤ f + 1)
  (hp : Blk PPT k1 #[.pointer (some ⟨b, 0, none⟩)] w) (hz : Blk NDT k2 z6 w) (hkb : k2 ≠ b) (hkt : k2 ≠ tb) (hkb1 : k1 ≠ b) (hk12 : k1 ≠ k2) :
  Calls Tryz.prog 152 #[.pointer (some ⟨k1, 0, none⟩), .pointer (some ⟨k2, 0, none⟩)] w (CloO b L tb tc bad d k2 (fun j => New w j ∧ j ≠ k2) (innerP L bad f d a) w) := by
 have hlen := hL.len
 have hbl := hP.blk.lt
 have htl := hP.lt
 have hk1l := hp.lt
 have hk2l := hz.lt
 have HI := Lib.hid (is_any hP ha 1)
 have HAH := fun w' (hb : Below w.heap.size w w') => ahead_any (hP.bel hb) hL.pos hlen (by omega : a ≤ 1100000)
 have HNX := fun w' (hb : Below w.heap.size w w') => next_any (hP.bel hb) ha hlen
 have HCA := fun w' (hb : Below w.heap.size w w') => h.casc (hP.bel hb) ha hd (by omega)
 have hasg := fun (hk : (isK L 1 a && (ahead L a).kind == 7) = true) => hL.assign ha hk
 have HEX := fun (w' : World) (ha' : a + 2 < L.length) (hp' : Pr b L tb tc bad (a + 2) d w') => h.expr hp' ha' hd (by omega)
 obtain ⟨R, hR⟩ : ∃ R, innerP L bad f d a = R := ⟨_, rfl⟩
 rw [hR]
 unfold innerP at hR
 have p0 : w.cell? ⟨k1, 0, none⟩ = some (.pointer (some ⟨b, 0, none⟩)) := hp.c 0 _ rfl
 obtain ⟨q, hq⟩ : ∃ t, isK L 1 a = t := ⟨_, rfl⟩
 obtain ⟨u, hu⟩ : ∃ t, ahead L a = t := ⟨_, rfl⟩
 obtain ⟨t, ht⟩ : ∃ t, now L a = t := ⟨_, rfl⟩
 rw [hq] at HI hR hasg
 rw [hu] at HAH hR hasg
 rw [ht] at HNX hR
 replace HAH := Lib.hid HAH
 replace HNX := Lib.hid HNX
 replace HCA := Lib.hid HCA
 replace HEX := Lib.hid HEX
 have HR := Lib.hid hR
 have HPB := Lib.hid hp
 have HZB := Lib.hid hz
 have HP := Lib.hid hP
 have F0 := fld0
 clear hq hu ht hR hP h hL hp hz
 unfold ptV at HAH
 cases q with
 | false =>
  have hR := HR.out
  rw [Bool.false_and, if_neg (by simp)] at hR
  rw [hR] at HCA
  go_enter Tryz.func152, Tryz.ntmps152
  go_wp2_with fail
  refine HI.out.mono ?_; rintro e w1 ⟨rfl, hb1⟩
  have p1 : w1.cell? ⟨k1, 0, none⟩ = some (.pointer (some ⟨b, 0, none⟩)) := (HPB.out.below hb1 hk1l).c 0 _ rfl
  go_wp2_with fail
  refine (HCA.out w1 hb1).mono ?_; intro e w5 ht
  have hsW := (hb1).size
  cases R with
  | error y =>
   obtain ⟨rfl, hm⟩ := ht
   go_wp2_with fail
   exact ⟨rfl, rfl, But.of_mv ((Mv.of_bel hb1).trans hm) (.inl rfl)⟩
  | ok y =>
   obtain ⟨n, a1⟩ := y
   obtain ⟨v, hv, rfl, hP5, hm5⟩ := ht
   obtain ⟨la, lc, ma, mc, rfl, hT, hN⟩ := hv.form
   have hs5 := hm5.size
   have hz5 := (hm5.block _ (by omega) hkb).trans (HZB.out.below hb1 hk2l)
   have hz5 : Blk NDT k2 #[.int .i64 0, .string ⟨#[]⟩, .int .i64 0, .slice none 0 0, .slice none 0 0, .int .i64 0] w5 := hz5
   have z0 := hz5.c 0 _ rfl
   have z1 := hz5.c 1 _ rfl
   have z2 := hz5.c 2 _ rfl
   have z3 := hz5.c 3 _ rfl
   have z4 := hz5.c 4 _ rfl
   have z5 := hz5.c 5 _ rfl
   have zf := hz5.fz
   have hM5 := (Mv.of_bel (b := b) hb1).trans hm5
   have hT1 := hT.mono (S' := fun j => New w j ∧ j ≠ k2) (fun j hj hl => by unfold New at *; omega)
   have hN1 := hN.mono (S' := fun j => New w j ∧ j ≠ k2) (fun j hj hl => by unfold New at *; omega)
   have HP5 := Lib.hid hP5
   have HM5 := Lib.hid hM5
   have HT5 := Lib.hid hT1
   have HN5 := Lib.hid hN1
   have HZ5 := Lib.hid hz5
   clear hv hP5 hm5 hT hN hM5 hT1 hN1 hz5
   unfold ndA
   go_wp2_with fail
   go_end0
   refine ⟨rfl, pr_far6 HP5.out (Ne.symm hkb) (Ne.symm hkt), ⟨la, lc, ma, mc, blk_set6 HZ5.out, HT5.out.kp (kp_set6 (by simp)), HN5.out.kp (kp_set6 (by simp))⟩, ?_⟩
   exact (((((((But.of_mv HM5.out (.inl rfl)).set_ (k := k2) (.inr rfl) 0 _).set_ (k := k2) (.inr rfl) 1 _).set_ (k := k2) (.inr rfl) 2 _).set_ (k := k2) (.inr rfl) 3 _).set_ (k := k2) (.inr rfl) 4 _).set_ (k := k2) (.inr rfl) 5 _)
 | true =>
  obtain ⟨q2, hq2⟩ : ∃ q, (u.kind == 7) = q := ⟨_, rfl⟩
  cases q2 with
  | false =>
   have hR := HR.out
   rw [hq2, if_neg (by simp)] at hR
   rw [hR] at HCA
   go_enter Tryz.func152, Tryz.ntmps152
   go_wp2_with fail
   refine HI.out.mono ?_; rintro e w1 ⟨rfl, hb1⟩
   have p1 : w1.cell? ⟨k1, 0, none⟩ = some (.pointer (some ⟨b, 0, none⟩)) := (HPB.out.below hb1 hk1l).c 0 _ rfl
   go_wp2_with fail
   refine (HAH.out w1 hb1).mono ?_; rintro e w2 ⟨rfl, hb2⟩
   have hbb := hb1.trans (hb2.mono hb1.size)
   have p2 : w2.cell? ⟨k1, 0, none⟩ = some (.pointer (some ⟨b, 0, none⟩)) := (HPB.out.below hbb hk1l).c 0 _ rfl
   go_wp2_with fail
   refine (HCA.out w2 hbb).mono ?_; intro e w5 ht
   have hsW := (hbb).size
   cases R with
   | error y =>
    obtain ⟨rfl, hm⟩ := ht
    go_wp2_with fail
    exact ⟨rfl, rfl, But.of_mv ((Mv.of_bel hbb).trans hm) (.inl rfl)⟩
   | ok y =>
    obtain ⟨n, a1⟩ := y
    obtain ⟨v, hv, rfl, hP5, hm5⟩ := ht
    obtain ⟨la, lc, ma, mc, rfl, hT, hN⟩ := hv.form
    have hs5 := hm5.size
    have hz5 := (hm5.block _ (by omega) hkb).trans (HZB.out.below hbb hk2l)
    have hz5 : Blk NDT k2 #[.int .i64 0, .string ⟨#[]⟩, .int .i64 0, .slice none 0 0, .slice none 0 0, .int .i64 0] w5 := hz5
    have z0 := hz5.c 0 _ rfl
    have z1 := hz5.c 1 _ rfl
    have z2 := hz5.c 2 _ rfl
    have z3 := hz5.c 3 _ rfl
    have z4 := hz5.c 4 _ rfl
    have z5 := hz5.c 5 _ rfl
    have zf := hz5.fz
    have hM5 := (Mv.of_bel (b := b) hbb).trans hm5
    have hT1 := hT.mono (S' := fun j => New w j ∧ j ≠ k2) (fun j hj hl => by unfold New at *; omega)
    have hN1 := hN.mono (S' := fun j => New w j ∧ j ≠ k2) (fun j hj hl => by unfold New at *; omega)
    have HP5 := Lib.hid hP5
    have HM5 := Lib.hid hM5
    have HT5 := Lib.hid hT1
    have HN5 := Lib.hid hN1
    have HZ5 := Lib.hid hz5
    clear hv hP5 hm5 hT hN hM5 hT1 hN1 hz5
    unfold ndA
    go_wp2_with fail
    go_end0
    refine ⟨rfl, pr_far6 HP5.out (Ne.symm hkb) (Ne.symm hkt), ⟨la, lc, ma, mc, blk_set6 HZ5.out, HT5.out.kp (kp_set6 (by simp)), HN5.out.kp (kp_set6 (by simp))⟩, ?_⟩
    exact (((((((But.of_mv HM5.out (.inl rfl)).set_ (k := k2) (.inr rfl) 0 _).set_ (k := k2) (.inr rfl) 1 _).set_ (k := k2) (.inr rfl) 2 _).set_ (k := k2) (.inr rfl) 3 _).set_ (k := k2) (.inr rfl) 4 _).set_ (k := k2) (.inr rfl) 5 _)
  | true =>
   obtain ⟨ha1, ha2⟩ := hasg (by rw [hq2]; rfl)
   have hR := HR.out
   rw [hq2, if_pos (show (true && true) = true from rfl)] at hR
   have HC := fun w' hp' => HEX.out w' ha2 hp'
   have hres : True := trivial
   obtain ⟨E, hE⟩ : ∃ E, exprP L bad f d (a + 2) = E := ⟨_, rfl⟩
   rw [hE] at HC hR
   replace HC := Lib.hid HC
   replace HR := Lib.hid hR
   clear hR hE hasg
   go_enter Tryz.func152, Tryz.ntmps152
   go_wp2_with fail
   refine HI.out.mono ?_; rintro e w1 ⟨rfl, hb1⟩
   have p1 : w1.cell? ⟨k1, 0, none⟩ = some (.pointer (some ⟨b, 0, none⟩)) := (HPB.out.below hb1 hk1l).c 0 _ rfl
   go_wp2_with fail
   refine (HAH.out w1 hb1).mono ?_; rintro e w2 ⟨rfl, hb2⟩
   have hbb := hb1.trans (hb2.mono hb1.size)
   have p2 : w2.cell? ⟨k1, 0, none⟩ = some (.pointer (some ⟨b, 0, none⟩)) := (HPB.out.below hbb hk1l).c 0 _ rfl
   have hsb := hbb.size
   go_wp2_with fail
   refine (HNX.out w2 hbb).mono ?_; rintro e w3 ⟨rfl, hP3, hm3⟩
   have hs3 := hm3.size
   have hM3 := (Mv.of_bel (b := b) hbb).trans hm3
   have hp3 : Blk PPT k1 #[.pointer (some ⟨b, 0, none⟩)] w3 := (hm3.block _ (by omega) hkb1).trans (HPB.out.below hbb hk1l)
   have hz3 : Blk NDT k2 z6 w3 := (hm3.block _ (by omega) hkb).trans (HZB.out.below hbb hk2l)
   have hbbA := alloc_bel w3 (.cells #[.int .i64 t.kind, .string ⟨t.word.toArray⟩, .int .i64 t.num, .int .i64 t.at_] KT)
   have hMkA := Blk.made (T := KT) (cs := #[.int .i64 t.kind, .string ⟨t.word.toArray⟩, .int .i64 t.num, .int .i64 t.at_]) w3
   have hszA : (w3.alloc (.cells #[.int .i64 t.kind, .string ⟨t.word.toArray⟩, .int .i64 t.num, .int .i64 t.at_] KT)).heap.size = w3.heap.size + 1 := by simp
   have hP4 := hP3.bel hbbA
   have hM4 := hM3.alloc (.cells #[.int .i64 t.kind, .string ⟨t.word.toArray⟩, .int .i64 t.num, .int .i64 t.at_] KT)
   have hp4 := hp3.alloc (.cells #[.int .i64 t.kind, .string ⟨t.word.toArray⟩, .int .i64 t.num, .int .i64 t.at_] KT)
   have hz4 := hz3.alloc (.cells #[.int .i64 t.kind, .string ⟨t.word.toArray⟩, .int .i64 t.num, .int .i64 t.at_] KT)
   obtain ⟨W4, halA⟩ : ∃ W, w3.alloc (.cells #[.int .i64 t.kind, .string ⟨t.word.toArray⟩, .int .i64 t.num, .int .i64 t.at_] KT) = W := ⟨_, rfl⟩
   rw [halA] at hMkA hszA hP4 hM4 hp4 hz4
   clear hbbA
   have p4 : W4.cell? ⟨k1, 0, none⟩ = some (.pointer (some ⟨b, 0, none⟩)) := hp4.c 0 _ rfl
   have c2 := hP4.c2
   have f2 := hP4.blk.fz 2
   have wa : IntKind.i64.wrap (((a + 1 : Nat) : Int) + 1) = ((a + 1 : Nat) : Int) + 1 := IntWalk.i64_in _ (by omega)
   obtain ⟨W5, hW5⟩ : ∃ W, W4.setCell ⟨b, 2, none⟩ (.int .i64 ((a : Int) + 1 + 1)) = W := ⟨_, rfl⟩
   have hP5 : Pr b L tb tc bad (a + 2) d W5 := by rw [← hW5]; exact hP4.setA (a + 2)
   have hM5 : Mv b w W5 := by rw [← hW5]; exact hM4.set_ 2 _
   have hz5 : Blk NDT k2 z6 W5 := by rw [← hW5]; exact hz4.far hkb _
   have hp5 : Blk PPT k1 #[.pointer (some ⟨b, 0, none⟩)] W5 := by rw [← hW5]; exact hp4.far hkb1 _
   have hk5 : Blk KT w3.heap.size #[.int .i64 t.kind, .string ⟨t.word.toArray⟩, .int .i64 t.num, .int .i64 t.at_] W5 := by rw [← hW5]; exact hMkA.far (show w3.heap.size ≠ b by omega) _
   have hs5 : W5.heap.size = W4.heap.size := by rw [← hW5]; simp [World.setCell]
   have HP5 := Lib.hid hP5
   have HM5 := Lib.hid hM5
   have HZ5 := Lib.hid hz5
   have HPB5 := Lib.hid hp5
   have HK5 := Lib.hid hk5
   clear hP3 hm3 hM3 hp3 hz3 hP4 hM4 hp4 hz4 hMkA hP5 hM5 hz5 hp5 hk5
   unfold ptV
   go_upto_region 3 with fail
   clear p0 p1 p2 p4 c2 f2 hW5 halA
   have hS : ∀ v, (Blk PPT k1 #[.pointer (some ⟨b, 0, none⟩)] v ∧ Blk KT w3.heap.size #[.int .i64 t.kind, .string ⟨t.word.toArray⟩, .int .i64 t.num, .int .i64 t.at_] v) → (v.cell? ⟨k1, 0, none⟩ = some (.pointer (some ⟨b, 0, none⟩)) ∧ v.cell? ⟨w3.heap.size, 1, none⟩ = some (.string ⟨t.word.toArray⟩) ∧ v.cell? ⟨w3.heap.size, 3, none⟩ = some (.int .i64 t.at_)) := fun v hv => ⟨hv.1.c 0 _ rfl, hv.2.c 1 _ rfl, hv.2.c 3 _ rfl⟩
   refine region_pk (fun c a a' w h hq => (show a.defers = [] ∧ _ from ⟨h ▸ (show a'.defers = [] ∧ _ from hq).1, (show a'.defers = [] ∧ _ from hq).2⟩)) (fun HPQ => ?_)
   refine Hd.start (fun v => (v.cell? ⟨k1, 0, none⟩ = some (.pointer (some ⟨b, 0, none⟩)) ∧ v.cell? ⟨w3.heap.size, 1, none⟩ = some (.string ⟨t.word.toArray⟩) ∧ v.cell? ⟨w3.heap.size, 3, none⟩ = some (.int .i64 t.at_))) (by kernel_rfl) (hS _ ⟨HPB5.out.drewN 1, HK5.out.drewN 1⟩) (fun hH0 => ?_)
   refine Hd.tk 0 1 hH0 ?_ (hQ := fun c a w h => HPQ c _ _ w (put_defers a _ _) h)
   refine Hd.tk 1 7 hH0 ?_ (hQ := fun c a w h => HPQ c _ _ w (put_defers a _ _) h)
   refine Hd.tk 2 3 hH0 ?_ (hQ := fun c a w h => HPQ c _ _ w (put_defers a _ _) h)
   refine Hd.tk 5 6 hH0 ?_ (hQ := fun c a w h => HPQ c _ _ w (put_defers a _ _) h)
   refine Hd.tk 6 7 hH0 ?_ (hQ := fun c a w h => HPQ c _ _ w (put_defers a _ _) h)
   refine Hd.on 3 (fun K hK => ?_)
   go_simp
   go_wp2_with fail
   refine (HC.out W5.drew HP5.out.drew).mono ?_; intro e w6 ht6
   cases E with
   | error y =>
    obtain ⟨rfl, hm⟩ := ht6
    have hR := HR.out
    simp only [bind, Except.bind] at hR
    subst hR
    go_wp2_with fail
    exact ⟨rfl, rfl, But.of_mv ((HM5.out.drew).trans hm) (.inl rfl)⟩
   | ok y =>
    obtain ⟨n, a1⟩ := y
    have hR := HR.out
    simp only [bind, Except.bind] at hR
    subst hR
    obtain ⟨v, hv, rfl, hP6, hm6⟩ := ht6
    obtain ⟨la, lc, ma, mc, rfl, hT, hN⟩ := hv.form
    have hs6 : W5.heap.size ≤ w6.heap.size := hm6.size
    have hz6 : Blk NDT k2 z6 w6 := (hm6.block _ (show k2 < W5.heap.size by omega) hkb).trans HZ5.out
    have hp6 : Blk PPT k1 #[.pointer (some ⟨b, 0, none⟩)] w6 := (hm6.block _ (show k1 < W5.heap.size by omega) hkb1).trans HPB5.out
    have hk6 : Blk KT w3.heap.size #[.int .i64 t.kind, .string ⟨t.word.toArray⟩, .int .i64 t.num, .int .i64 t.at_] w6 := (hm6.block _ (show w3.heap.size < W5.heap.size by omega) (by omega)).trans HK5.out
    have hM6 := (HM5.out.drew).trans hm6
    have hT1 := hT.mono (S' := fun j => New w j ∧ j ≠ k2) (fun j hj hl => by have hj : W5.heap.size ≤ j := hj; unfold New; omega)
    have hN1 := hN.mono (S' := fun j => New w j ∧ j ≠ k2) (fun j hj hl => by have hj : W5.heap.size ≤ j := hj; unfold New; omega)
    have HZ6 := Lib.hid hz6
    have HPB6 := Lib.hid hp6
    have HK6 := Lib.hid hk6
    have HM6 := Lib.hid hM6
    have HP6 := Lib.hid hP6
    have HT6 := Lib.hid hT1
    have HN6 := Lib.hid hN1
    clear hv hP6 hm6 hT hN hz6 hp6 hk6 hM6 hT1 hN1 HP5 HM5 HZ5 HPB5 HK5
    unfold ndA
    go_wp2_with fail
    refine hK.out _ _ (hS _ ⟨HPB6.out, HK6.out⟩) (fun hH1 => ?_)
    clear hK K
    try simp only [Act.put, Hd.sa, Hd.sz, Hd.ss]
    have hP6 := HP6.out
    have hM6 := HM6.out
    have hz6 := HZ6.out
    have hp6 := HPB6.out
    have hk6 := HK6.out
    have hT6 := HT6.out
    have hN6 := HN6.out
    have hbbB := alloc_bel w6 (.cells #[.int .i64 n.kind, .string ⟨n.name.toArray⟩, .int .i64 n.num, .slice la n.kids.length lc, .slice ma n.names.length mc, .int .i64 n.at_] NDT)
    have hMkB := Blk.made (T := NDT) (cs := #[.int .i64 n.kind, .string ⟨n.name.toArray⟩, .int .i64 n.num, .slice la n.kids.length lc, .slice ma n.names.length mc, .int .i64 n.at_]) w6
    have hszB : (w6.alloc (.cells #[.int .i64 n.kind, .string ⟨n.name.toArray⟩, .int .i64 n.num, .slice la n.kids.length lc, .slice ma n.names.length mc, .int .i64 n.at_] NDT)).heap.size = w6.heap.size + 1 := by simp
    have hP7 := hP6.bel hbbB
    have hM7 := hM6.alloc (.cells #[.int .i64 n.kind, .string ⟨n.name.toArray⟩, .int .i64 n.num, .slice la n.kids.length lc, .slice ma n.names.length mc, .int .i64 n.at_] NDT)
    have hz7 := hz6.alloc (.cells #[.int .i64 n.kind, .string ⟨n.name.toArray⟩, .int .i64 n.num, .slice la n.kids.length lc, .slice ma n.names.length mc, .int .i64 n.at_] NDT)
    have hp7 := hp6.alloc (.cells #[.int .i64 n.kind, .string ⟨n.name.toArray⟩, .int .i64 n.num, .slice la n.kids.length lc, .slice ma n.names.length mc, .int .i64 n.at_] NDT)
    have hk7 := hk6.alloc (.cells #[.int .i64 n.kind, .string ⟨n.name.toArray⟩, .int .i64 n.num, .slice la n.kids.length lc, .slice ma n.names.length mc, .int .i64 n.at_] NDT)
    have hT7 := hT6.bel hbbB
    have hN7 := hN6.below hbbB
    obtain ⟨W7, halB⟩ : ∃ W, w6.alloc (.cells #[.int .i64 n.kind, .string ⟨n.name.toArray⟩, .int .i64 n.num, .slice la n.kids.length lc, .slice ma n.names.length mc, .int .i64 n.at_] NDT) = W := ⟨_, rfl⟩
    rw [halB] at hMkB hszB hP7 hM7 hz7 hp7 hk7 hT7 hN7
    clear hbbB
    have hG : Tree (fun j => New w j ∧ j ≠ k2) W7 (.slice (some ⟨w6.heap.size, 0, none⟩) 1 1) [n] := tree_one (T := NDT) hMkB (by unfold New; omega) hT7 hN7
    unfold z6 at hz7
    have z0 := hz7.c 0 _ rfl
    have z1 := hz7.c 1 _ rfl
    have z2 := hz7.c 2 _ rfl
    have z3 := hz7.c 3 _ rfl
    have z4 := hz7.c 4 _ rfl
    have z5 := hz7.c 5 _ rfl
    have zf := hz7.fz
    have HP7 := Lib.hid hP7
    have HM7 := Lib.hid hM7
    have HZ7 := Lib.hid hz7
    have HPB7 := Lib.hid hp7
    have HK7 := Lib.hid hk7
    have HG := Lib.hid hG
    clear hP6 hM6 hz6 hp6 hk6 hT6 hN6 hP7 hM7 hz7 hp7 hk7 hT7 hN7 hG hMkB HZ6 HPB6 HK6 HM6 HP6 HT6 HN6
    refine Hd.on 4 (fun K hK => ?_)
    go_simp
    go_wp2_with fail
    refine hK.out _ _ (hS _ ⟨HPB7.out, HK7.out⟩) (fun hH2 => ?_)
    clear hK K
    try simp only [Act.put, Hd.sa, Hd.sz, Hd.ss]
    refine Hd.tk 7 8 hH2 ?_ (hQ := fun c a w h => HPQ c _ _ w (put_defers a _ _) h)
    refine Hd.la 8 (fun K hK => ?_)
    go_simp
    refine hK.out _ _ ?_
    clear hK K
    try simp only [Act.put, Hd.sa, Hd.sz, Hd.ss]
    go_wp2_with fail
    go_end0
    refine ⟨rfl, pr_far6 HP7.out (Ne.symm hkb) (Ne.symm hkt), ⟨_, _, _, _, blk_set6 HZ7.out, HG.out.kp (kp_set6 (by simp)), rd_none _ _⟩, ?_⟩
    exact (((((((But.of_mv HM7.out (.inl rfl)).set_ (k := k2) (.inr rfl) 0 _).set_ (k := k2) (.inr rfl) 1 _).set_ (k := k2) (.inr rfl) 2 _).set_ (k := k2) (.inr rfl) 3 _).set_ (k := k2) (.inr rfl) 4 _).set_ (k := k2) (.inr rfl) 5 _)
end
end Pa
end Go.Proofs.YtmmgfifpjifjnaaGreatDoor
namespace Go.Proofs.YtmmgfifpjifjnaaGreatDoor
open Go.RowKit
namespace Pa
open Bs Sm Tr
open Lx (Mv)
section
variable {b : Nat} {L : List Pt} {tb tc : Nat} {bad : Int} {a d f : Nat} {w w' w0 : World} {S S' : Nat → Prop} {K : Nat} {x : Nd}
theorem CloO.mono {k : Nat} {x : PE (Nd × Nat)} {e : Ending} (h : CloO b L tb tc bad d k S x w e w') (hs : ∀ j, S j → j < w'.heap.size → S' j) : CloO b L tb tc bad d k S' x w e w' := by
 cases x with
 | error E => exact h
 | ok y => exact ⟨h.1, h.2.1, h.2.2.1.mono hs, h.2.2.2⟩
set_option maxRecDepth 100000 in
set_option maxHeartbeats 3200000 in
theorem expr_step (hL : LOk L) (h : PA L bad f) (hP : Pr b L tb tc bad a d w) (ha : a < L.length) (hd : d ≤ 40) (hf : 16 * (L.length - a) + 7 ≤ f + 1) :
  Calls Tryz.prog 141 #[.pointer (some ⟨b, 0, none⟩)] w (NdO b L tb tc bad d (New w) (exprP L bad (f + 1) d a) w) := by
 have hlen := hL.len
 have hbl := hP.blk.lt
 have htl := hP.lt
 have HPW := fun w' (hb : Below w.heap.size w w') => hP.bel hb
 have hm0 := Mv.refl b w
 have hmf : ∀ (fn : Fn) (first cap : Array Value) (w : World), (Instr.makeFunc fn first cap).run Tryz.prog w = .ok (.func fn first cap) w := fun _ _ _ _ => rfl
 obtain ⟨R, hR⟩ : ∃ R, exprP L bad (f + 1) d a = R := ⟨_, rfl⟩
 rw [hR]
 rw [inner_eq] at hR
 have hbbA := alloc_bel w (.cells #[.pointer (some ⟨b, 0, none⟩)] PPT)
 have hMkA := Blk.made (T := PPT) (cs := #[.pointer (some ⟨b, 0, none⟩)]) w
 have hszA : (w.alloc (.cells #[.pointer (some ⟨b, 0, none⟩)] PPT)).heap.size = w.heap.size + 1 := by simp
 have hP1 := hP.bel hbbA
 have hM1 := hm0.alloc (.cells #[.pointer (some ⟨b, 0, none⟩)] PPT)
 obtain ⟨W1, halA⟩ : ∃ W, w.alloc (.cells #[.pointer (some ⟨b, 0, none⟩)] PPT) = W := ⟨_, rfl⟩
 rw [halA] at hMkA hszA hP1 hM1
 clear hbbA
 have hbbB := alloc_bel W1 (.cells #[.int .i64 0, .string ⟨#[]⟩, .int .i64 0, .slice none 0 0, .slice none 0 0, .int .i64 0] NDT)
 have hMkB := Blk.made (T := NDT) (cs := #[.int .i64 0, .string ⟨#[]⟩, .int .i64 0, .slice none 0 0, .slice none 0 0, .int .i64 0]) W1
 have hszB : (W1.alloc (.cells #[.int .i64 0, .string ⟨#[]⟩, .int .i64 0, .slice none 0 0, .slice none 0 0, .int .i64 0] NDT)).heap.size = W1.heap.size + 1 := by simp
 have hP2 := hP1.bel hbbB
 have hM2 := hM1.alloc (.cells #[.int .i64 0, .string ⟨#[]⟩, .int .i64 0, .slice none 0 0, .slice none 0 0, .int .i64 0] NDT)
 have hp2 := hMkA.alloc (.cells #[.int .i64 0, .string ⟨#[]⟩, .int .i64 0, .slice none 0 0, .slice none 0 0, .int .i64 0] NDT)
 obtain ⟨W2, halB⟩ : ∃ W, W1.alloc (.cells #[.int .i64 0, .string ⟨#[]⟩, .int .i64 0, .slice none 0 0, .slice none 0 0, .int .i64 0] NDT) = W := ⟨_, rfl⟩
 rw [halB] at hMkB hszB hP2 hM2 hp2
 clear hbbB
 rw [hszA] at hMkB
 have hz2 := hMkB
 have HW := within_any (S := fun j => New w j ∧ j ≠ w.heap.size + 1) (k1 := w.heap.size) (k2 := w.heap.size + 1) (x := innerP L bad f (d + 1) a) (enters_of Tryz.func152 (by kernel_rfl) rfl) hL hP2 ha hd (by omega) (by unfold New; omega)
  (fun W hPW hd1 hmW => by
   have hsW := hmW.size
   have hpW : Blk PPT w.heap.size #[.pointer (some ⟨b, 0, none⟩)] W := (hmW.block _ (by omega) (by omega)).trans hp2
   have hzW : Blk NDT (w.heap.size + 1) z6 W := (hmW.block _ (by omega) (by omega)).trans hz2
   exact (clo_expr hL h hPW ha hd1 (by omega) hpW hzW (by omega) (by omega) (by omega) (by omega)).mono (fun e w' hc => hc.mono (fun j hj _ => by unfold New at *; omega)))
 rw [hR] at HW
 have HW := Lib.hid HW
 have HM2 := Lib.hid hM2
 have p2 : W2.cell? ⟨w.heap.size, 0, none⟩ = some (.pointer (some ⟨b, 0, none⟩)) := hp2.c 0 _ rfl
 clear hP1 hM1 hP2 hM2 hp2 hMkA hMkB hz2 hR h hP HPW hm0 hL
 go_enter Tryz.func141, Tryz.ntmps141
 go_wp2_with fail
 refine HW.out.mono ?_; intro e w3 ht
 cases R with
 | error y =>
  obtain ⟨rfl, hm⟩ := ht
  go_wp2_with fail
  exact ⟨rfl, rfl, But.mv hm (fun k hk => by rcases hk with hk | hk; exact .inl hk; exact .inr (by omega)) HM2.out⟩
 | ok y =>
  obtain ⟨n, a1⟩ := y
  obtain ⟨rfl, hP3, hN3, hm3⟩ := ht
  obtain ⟨la, lc, ma, mc, hB3, hT3, hN3⟩ := hN3
  have hM3 := But.mv hm3 (fun k hk => by rcases hk with hk | hk; exact .inl hk; exact .inr (by omega)) HM2.out
  unfold ndA at hB3
  have e0 := hB3.c 0 _ rfl
  have e1 := hB3.c 1 _ rfl
  have e2 := hB3.c 2 _ rfl
  have e3 := hB3.c 3 _ rfl
  have e4 := hB3.c 4 _ rfl
  have e5 := hB3.c 5 _ rfl
  have ef := hB3.fz
  have HP3 := Lib.hid hP3
  have HM3 := Lib.hid hM3
  have HT3 := Lib.hid hT3
  have HN3 := Lib.hid hN3
  clear hP3 hM3 hT3 hN3 hm3 hB3 p2 halA halB
  go_wp2_with fail
  refine bodyPost_ret (v := .agg #[.int .i64 n.kind, .string ⟨n.name.toArray⟩, .int .i64 n.num, .slice la n.kids.length lc, .slice ma n.names.length mc, .int .i64 n.at_]) (by simp [results, Tryz.results141, go_sem, ndA, e0, e1, e2, e3, e4, e5]) rfl ?_
  refine ⟨_, ⟨_, _, rfl, (HT3.out.kp (kp_set6 ?_)).mono (fun j hj _ => hj.1), (HN3.out.kp (kp_set6 ?_)).mono (fun j hj _ => hj.1)⟩, rfl, pr_far6 HP3.out (by omega) (by omega), mv_set6 HM3.out (by omega)⟩
  all_goals simp
end
end Pa
end Go.Proofs.YtmmgfifpjifjnaaGreatDoor
namespace Go.Proofs.YtmmgfifpjifjnaaGreatDoor
open Go.RowKit
namespace Pa
open Bs Sm Tr
open Lx (Mv)
section
variable {b : Nat} {L : List Pt} {tb tc : Nat} {bad : Int} {a d f : Nat} {w w' w0 : World} {S S' : Nat → Prop} {K : Nat} {x : Nd}
theorem But.drew {X : Nat → Prop} (h : But X w w') : But X w w'.drew := ⟨h.os, h.tape, h.output, h.size, h.block⟩
theorem But.grown {X : Nat → Prop} {o : Option Nat} (h : But X w0 w) (hg : w.grownBy w' o) (ho : ∀ k, o = some k → w0.heap.size ≤ k) : But X w0 w' :=
 ⟨hg.os.trans h.os, hg.tape.trans h.tape, hg.output.trans h.output, Nat.le_trans h.size hg.size, fun k hk hx => (hg.block k (Nat.lt_of_lt_of_le hk h.size) (fun e => by have := ho k e.symm; omega)).trans (h.block k hk hx)⟩
end
end Pa
end Go.Proofs.YtmmgfifpjifjnaaGreatDoor
