/- Package parse, the walk, 5: statement, keyworded (wip/gen/gen_paw5.py prints this). · Package parse, the walk, 6: keyworded, binary (wip/gen/gen_paw6.py prints this). · Package parse, the walk, 7: binary (wip/gen/gen_paw7.py prints this). · Package parse, the walk, 9: statements (wip/gen/gen_paw9.py prints this). · Package parse, the walk, 10: cascade (wip/gen/gen_paw10.py prints this). -/
import Derived.Test.YtmmgfifpjifjnaaGreatDoorPaX1
set_option linter.unusedVariables false
namespace Go.Proofs.YtmmgfifpjifjnaaGreatDoor
open Go.RowKit
namespace Pa
open Bs Sm Tr
open Lx (Mv)
section
variable {b : Nat} {L : List Pt} {tb tc : Nat} {bad : Int} {a d f : Nat} {w w' w0 : World} {S S' : Nat → Prop} {K : Nat} {x : Nd}
set_option maxRecDepth 100000 in
set_option maxHeartbeats 3200000 in
theorem stmt_step (hL : LOk L) (h : PA L bad f) (hP : Pr b L tb tc bad a d w) (ha : a < L.length) (hd : d ≤ 40) (hf : 16 * (L.length - a) + 8 ≤ f + 1) :
  Calls Tryz.prog 105 #[.pointer (some ⟨b, 0, none⟩)] w (NbO b L tb tc bad d (New w) (stmtP L bad (f + 1) d a) w) := by
 have hlen := hL.len
 have hbl := hP.blk.lt
 have htl := hP.lt
 have hX := alloc_bel w (.cells z6 NDT)
 have HI := Lib.hid (is_any (hP.bel hX) ha 8)
 rw [stmtP]
 obtain ⟨q, hq⟩ : ∃ t, isK L 8 a = t := ⟨_, rfl⟩
 rw [hq] at HI
 cases q with
 | false =>
  rw [if_neg (by rw [hq]; simp)]
  have HC := fun w' (hb : Below w.heap.size w w') => h.expr (hP.bel hb) ha hd (by omega)
  obtain ⟨E, hE⟩ : ∃ E, exprP L bad f d a = E := ⟨_, rfl⟩
  rw [hE] at HC ⊢
  replace HC := Lib.hid HC
  have HX := Lib.hid hX
  clear hX hE hq hL h hP
  go_enter Tryz.func105, Tryz.ntmps105
  go_wp2_with fail
  refine HI.out.mono ?_; rintro e w1 ⟨rfl, hb1⟩
  have hw1 := HX.out.trans (hb1.mono (by simp))
  have hs1 := hb1.size
  simp only [World.size_alloc] at hs1
  have hZ1 : Blk NDT w.heap.size z6 w1 := (Blk.made w).below hb1 (by simp)
  go_wp2_with fail
  refine (HC.out w1 hw1).mono ?_; intro e w2 ht
  cases E with
  | error x =>
   obtain ⟨rfl, hm⟩ := ht
   go_wp2_with fail
   exact ⟨rfl, rfl, (Mv.of_bel hw1).trans hm⟩
  | ok y =>
   obtain ⟨n, a1⟩ := y
   obtain ⟨v, hv, rfl, hP2, hm2⟩ := ht
   obtain ⟨ka, kc, na, nc, rfl, hT, hN⟩ := hv.form
   have hZ2 : Blk NDT w.heap.size z6 w2 := (hm2.block _ (by omega) (by omega)).trans hZ1
   have hM2 := (Mv.of_bel (b := b) hw1).trans hm2
   have hs2 := hm2.size
   unfold z6 at hZ2
   have z0 := hZ2.c 0 _ rfl
   have z1 := hZ2.c 1 _ rfl
   have z2 := hZ2.c 2 _ rfl
   have z3 := hZ2.c 3 _ rfl
   have z4 := hZ2.c 4 _ rfl
   have z5 := hZ2.c 5 _ rfl
   have zf := hZ2.fz
   have HP2 := Lib.hid hP2
   have HT := Lib.hid hT
   have HN := Lib.hid hN
   have HM2 := Lib.hid hM2
   clear hv hm2 hP2 hT hN hM2 hZ2 hZ1 hb1
   unfold ndA
   go_wp2_with fail
   refine bodyPost_ret (v := .tuple #[.agg (ndA n ka kc na nc), .bool false]) (by simp [results, Tryz.results105, go_sem, ndA, z0, z1, z2, z3, z4, z5]) rfl ?_
   refine ⟨_, ⟨_, _, rfl, (HT.out.kp (kp_set6 ?_)).mono (fun j hj _ => ?_), (HN.out.kp (kp_set6 ?_)).mono (fun j hj _ => ?_)⟩, rfl, pr_far6 HP2.out (by omega) (by omega), mv_set6 HM2.out (Nat.le_refl _)⟩
   all_goals unfold New at *
   all_goals omega
 | true =>
  rw [if_pos hq]
  have hk1 := hL.next hq (by omega) ha
  have HNX := fun w' (hb : Below w.heap.size w w') => next_any (hP.bel hb) ha hlen
  have HC := fun (w' : World) (hp : Pr b L tb tc bad (a + 1) d w') => h.expr hp hk1 hd (by omega)
  obtain ⟨E, hE⟩ : ∃ E, exprP L bad f d (a + 1) = E := ⟨_, rfl⟩
  obtain ⟨t, ht⟩ : ∃ t, now L a = t := ⟨_, rfl⟩
  rw [hE] at HC ⊢
  rw [ht] at HNX ⊢
  replace HC := Lib.hid HC
  replace HNX := Lib.hid HNX
  have HX := Lib.hid hX
  have F3 := fld3
  clear hX hE hq hL h hP ht
  unfold ptV at HNX
  go_enter Tryz.func105, Tryz.ntmps105
  go_wp2_with fail
  refine HI.out.mono ?_; rintro e w1 ⟨rfl, hb1⟩
  have hw1 := HX.out.trans (hb1.mono (by simp))
  have hs1 := hb1.size
  simp only [World.size_alloc] at hs1
  have hZ1 : Blk NDT w.heap.size z6 w1 := (Blk.made w).below hb1 (by simp)
  go_wp2_with fail
  refine (HNX.out w1 hw1).mono ?_; rintro e w2 ⟨rfl, hP2, hm2⟩
  have hZ2 : Blk NDT w.heap.size z6 w2 := (hm2.block _ (by omega) (by omega)).trans hZ1
  have hM2 := (Mv.of_bel (b := b) hw1).trans hm2
  have hs2 := hm2.size
  clear hm2 hZ1 hb1
  go_wp2_with fail
  refine (HC.out w2 hP2).mono ?_; intro e w3 ht
  cases E with
  | error x =>
   obtain ⟨rfl, hm⟩ := ht
   go_wp2_with fail
   exact ⟨rfl, rfl, hM2.trans hm⟩
  | ok y =>
   obtain ⟨n, a1⟩ := y
   obtain ⟨v, hv, rfl, hP3, hm3⟩ := ht
   obtain ⟨ka, kc, na, nc, rfl, hT, hN⟩ := hv.form
   have hZ3 : Blk NDT w.heap.size z6 w3 := (hm3.block _ (by omega) (by omega)).trans hZ2
   have hM3 := hM2.trans hm3
   have hs3 := hm3.size
   unfold z6 at hZ3
   have z0 := hZ3.c 0 _ rfl
   have z1 := hZ3.c 1 _ rfl
   have z2 := hZ3.c 2 _ rfl
   have z3 := hZ3.c 3 _ rfl
   have z4 := hZ3.c 4 _ rfl
   have z5 := hZ3.c 5 _ rfl
   have zf := hZ3.fz
   have hZ4 : Blk NDT w.heap.size #[.int .i64 0, .string ⟨#[]⟩, .int .i64 0, .slice none 0 0, .slice none 0 0, .int .i64 0] (w3.alloc (.cells (ndA n ka kc na nc) NDT)) := hZ3.alloc _
   have hbb := alloc_bel w3 (.cells (ndA n ka kc na nc) NDT)
   have hT4 := tree_one (S := fun j => New w3 j) (Blk.made (T := NDT) (cs := ndA n ka kc na nc) w3) (Nat.le_refl _)
   have hP4 := hP3.bel hbb
   have hM4 := hM3.alloc (.cells (ndA n ka kc na nc) NDT)
   have hT5 := tree_one (S := fun j => New w2 j) (Blk.made (T := NDT) (cs := ndA n ka kc na nc) w3) (by unfold New; omega) (hT.bel hbb) (hN.below hbb)
   unfold ndA at hZ4 hT5 hP4 hM4 ⊢
   obtain ⟨W4, hal⟩ : ∃ W, w3.alloc (.cells #[.int .i64 n.kind, .string ⟨n.name.toArray⟩, .int .i64 n.num, .slice ka n.kids.length kc, .slice na n.names.length nc, .int .i64 n.at_] NDT) = W := ⟨_, rfl⟩
   rw [hal] at hZ4 hT5 hP4 hM4
   clear hT4 hbb z0 z1 z2 z3 z4 z5 zf
   have z0 := hZ4.c 0 _ rfl
   have z1 := hZ4.c 1 _ rfl
   have z2 := hZ4.c 2 _ rfl
   have z3 := hZ4.c 3 _ rfl
   have z4 := hZ4.c 4 _ rfl
   have z5 := hZ4.c 5 _ rfl
   have zf := hZ4.fz
   have HP4 := Lib.hid hP4
   have HM4 := Lib.hid hM4
   have HT5 := Lib.hid hT5
   clear hv hm3 hP3 hT hN hM3 hZ3 hZ2 hM2 hP2 hZ4 hP4 hM4 hT5
   go_wp2_with fail
   refine bodyPost_ret (v := .tuple #[.agg #[.int .i64 10, .string ⟨#[]⟩, .int .i64 0, .slice (some ⟨w3.heap.size, 0, none⟩) 1 1, .slice none 0 0, .int .i64 t.at_], .bool true]) (by simp [results, Tryz.results105, go_sem, ndA, z0, z1, z2, z3, z4, z5]) rfl ?_
   refine ⟨_, ⟨_, _, rfl, (HT5.out.kp (kp_set6 ?_)).mono (fun j hj _ => ?_), rd_none _ _⟩, rfl, pr_far6 HP4.out (by omega) (by omega), mv_set6 HM4.out (Nat.le_refl _)⟩
   all_goals unfold New at *
   all_goals omega
end
end Pa
end Go.Proofs.YtmmgfifpjifjnaaGreatDoor
namespace Go.Proofs.YtmmgfifpjifjnaaGreatDoor
open Go.RowKit
namespace Pa
open Bs Sm Tr
open Lx (Mv)
section
variable {b : Nat} {L : List Pt} {tb tc : Nat} {bad : Int} {a d f : Nat} {w w' w0 : World} {S S' : Nat → Prop} {K : Nat} {x : Nd}
theorem tree_two {T g : Nat} {x y : Nd} {ka na la ma : Option Addr} {kc nc lc mc : Nat} (h : Blk T g (ndA x ka kc na nc ++ ndA y la lc ma mc) w) (hS : S g) (hk : Tree S w (.slice ka x.kids.length kc) x.kids) (hn : Rd S strV w (.slice na x.names.length nc) x.names)
  (hk2 : Tree S w (.slice la y.kids.length lc) y.kids) (hn2 : Rd S strV w (.slice ma y.names.length mc) y.names) : Tree S w (.slice (some ⟨g, 0, none⟩) 2 2) [x, y] :=
 tree_lit (T := T) [(x, .slice ka x.kids.length kc, .slice na x.names.length nc), (y, .slice la y.kids.length lc, .slice ma y.names.length mc)] h hS (by simp; unfold maxLen; omega)
  (fun z hz => by rcases List.mem_cons.1 hz with rfl | hz; exact hk; obtain rfl := List.mem_singleton.1 hz; exact hk2) (fun z hz => by rcases List.mem_cons.1 hz with rfl | hz; exact hn; obtain rfl := List.mem_singleton.1 hz; exact hn2)
set_option maxRecDepth 100000 in
set_option maxHeartbeats 3200000 in
theorem kwd_step (hL : LOk L) (h : PA L bad f) (hP : Pr b L tb tc bad a d w) (ha : a < L.length) (hd : d ≤ 40) (hf : 16 * (L.length - a) + 5 ≤ f + 1) :
  Calls Tryz.prog 163 #[.pointer (some ⟨b, 0, none⟩)] w (NbO b L tb tc bad d (New w) (kwdP L bad (f + 1) d a) w) := by
 have hlen := hL.len
 have hbl := hP.blk.lt
 have htl := hP.lt
 have hX := alloc_bel w (.cells z6 NDT)
 have HC := Lib.hid (h.bin (hP.bel hX) ha hd (by omega))
 have hres := (PB.all (bad := bad) hL f).bin d a ha
 obtain ⟨R, hR⟩ : ∃ R, kwdP L bad (f + 1) d a = R := ⟨_, rfl⟩
 rw [hR]
 rw [kwdP] at hR
 obtain ⟨E, hE⟩ : ∃ E, binP L bad f d a = E := ⟨_, rfl⟩
 rw [hE] at HC hres hR
 have HR := Lib.hid hR
 clear hR
 have HX := Lib.hid hX
 have HH := Lib.hid h
 clear hX hE h hP
 go_enter Tryz.func163, Tryz.ntmps163
 go_wp2_with fail
 refine HC.out.mono ?_; intro e w1 ht
 cases E with
 | error x =>
  obtain ⟨rfl, hm⟩ := ht
  have hR := HR.out
  simp only [bind, Except.bind] at hR
  subst hR
  go_wp2_with fail
  exact ⟨rfl, rfl, (Mv.of_bel HX.out).trans hm⟩
 | ok y =>
  obtain ⟨n, s, a1⟩ := y
  have hR := HR.out
  simp only [bind, Except.bind] at hR
  replace HR := Lib.hid hR
  clear hR
  obtain ⟨v, hv, rfl, hP1, hm1⟩ := ht
  obtain ⟨ka, kc, na, nc, rfl, hT, hN⟩ := hv.form
  obtain ⟨r1, r2, -, -⟩ := hres
  simp only at r1 r2
  have hs1 := hm1.size
  simp only [World.size_alloc] at hs1
  have hM1 := (Mv.of_bel (b := b) HX.out).trans hm1
  have hZ1 : Blk NDT w.heap.size z6 w1 := (hm1.block _ (by simp) (by omega)).trans (Blk.made w)
  have hbb := alloc_bel w1 (.cells (ndA n ka kc na nc) NDT)
  have hB2 := Blk.made (T := NDT) (cs := ndA n ka kc na nc) w1
  have hP2 := hP1.bel hbb
  have hM2 := hM1.alloc (.cells (ndA n ka kc na nc) NDT)
  have hZ2 := hZ1.alloc (.cells (ndA n ka kc na nc) NDT)
  have hs2 : (w1.alloc (.cells (ndA n ka kc na nc) NDT)).heap.size = w1.heap.size + 1 := by simp
  have hT2 := (hT.mono (S' := fun j => New w j ∧ j ≠ w.heap.size ∧ j ≠ w1.heap.size) (fun j hj hl => by unfold New at *; simp at hj; omega)).bel hbb
  have hN2 := (hN.mono (S' := fun j => New w j ∧ j ≠ w.heap.size ∧ j ≠ w1.heap.size) (fun j hj hl => by unfold New at *; simp at hj; omega)).below hbb
  unfold ndA at hB2 hP2 hM2 hZ2 hT2 hN2 hs2
  unfold z6 at hZ2
  unfold ndA
  obtain ⟨W2, hal⟩ : ∃ W, w1.alloc (.cells #[.int .i64 n.kind, .string ⟨n.name.toArray⟩, .int .i64 n.num, .slice ka n.kids.length kc, .slice na n.names.length nc, .int .i64 n.at_] NDT) = W := ⟨_, rfl⟩
  rw [hal] at hB2 hP2 hM2 hZ2 hT2 hN2 hs2
  have HI := is_any hP2 r2 2
  have HP3 := fun w' (hb : Below W2.heap.size W2 w') => hP2.bel hb
  obtain ⟨q, hq⟩ : ∃ t, isK L 2 a1 = t := ⟨_, rfl⟩
  rw [hq] at HI
  replace HI := Lib.hid HI
  have HP3 := Lib.hid HP3
  have HM2 := Lib.hid hM2
  have HZ2 := Lib.hid hZ2
  have HB2 := Lib.hid hB2
  have HT2 := Lib.hid hT2
  have HN2 := Lib.hid hN2
  clear hv hm1 hP1 hT hN hZ1 hM1 hbb hB2 hP2 hM2 hZ2 hT2 hN2
  go_wp2_with fail
  refine HI.out.mono ?_; rintro e w3 ⟨rfl, hb3⟩
  have hs3 := hb3.size
  have hB3 := HB2.out.below hb3 (by omega)
  have hZ3 := HZ2.out.below hb3 (by omega)
  have e0 := hB3.c 0 _ rfl
  have e1 := hB3.c 1 _ rfl
  have e2 := hB3.c 2 _ rfl
  have e3 := hB3.c 3 _ rfl
  have e4 := hB3.c 4 _ rfl
  have e5 := hB3.c 5 _ rfl
  have z0 := hZ3.c 0 _ rfl
  have z1 := hZ3.c 1 _ rfl
  have z2 := hZ3.c 2 _ rfl
  have z3 := hZ3.c 3 _ rfl
  have z4 := hZ3.c 4 _ rfl
  have z5 := hZ3.c 5 _ rfl
  have zf := hZ3.fz
  have hP3 := HP3.out w3 hb3
  have hM3 := HM2.out.trans (Mv.of_bel hb3)
  have hT3 := HT2.out.bel hb3
  have hN3 := HN2.out.below hb3
  cases q with
  | false =>
   have hR := HR.out
   rw [if_neg (by rw [hq]; simp)] at hR
   subst hR
   have HP3 := Lib.hid hP3
   have HM3 := Lib.hid hM3
   have HT3 := Lib.hid hT3
   have HN3 := Lib.hid hN3
   clear hP3 hM3 hT3 hN3 hB3 hZ3 hb3 HB2 HZ2 HT2 HN2 HM2 hq HH
   go_wp2_with fail
   refine bodyPost_ret (v := .tuple #[.agg #[.int .i64 n.kind, .string ⟨n.name.toArray⟩, .int .i64 n.num, .slice ka n.kids.length kc, .slice na n.names.length nc, .int .i64 n.at_], .bool s]) (by simp [results, Tryz.results163, go_sem, ndA, z0, z1, z2, z3, z4, z5]) rfl ?_
   refine ⟨_, ⟨_, _, rfl, (HT3.out.kp (kp_set6 ?_)).mono (fun j hj _ => hj.1), (HN3.out.kp (kp_set6 ?_)).mono (fun j hj _ => hj.1)⟩, rfl, pr_far6 HP3.out (by omega) (by omega), mv_set6 HM3.out (Nat.le_refl _)⟩
   all_goals simp
  | true =>
   have hR := HR.out
   rw [if_pos hq] at hR
   have HC2 := HH.out.kws hP3 r2 hd (⟨_, _, rfl, hT3, hN3⟩ : NdAt (fun j => New w j ∧ j ≠ w.heap.size ∧ j ≠ w1.heap.size) w3 _ n) (by unfold New; omega) (by omega)
   obtain ⟨E2, hE2⟩ : ∃ E, kwsP L bad f d a1 (now L a1) [] [n] = E := ⟨_, rfl⟩
   rw [hE2] at HC2 hR
   replace HR := Lib.hid hR
   clear hR
   unfold ndV at HC2
   have HC2 := Lib.hid HC2
   have HM3 := Lib.hid hM3
   have HZ3 := Lib.hid hZ3
   clear hP3 hM3 hT3 hN3 hB3 hZ3 hb3 HB2 HZ2 HT2 HN2 HM2 hq HH hE2 z0 z1 z2 z3 z4 z5 zf
   go_wp2_with fail
   refine HC2.out.mono ?_; intro e w4 ht
   cases E2 with
   | error x =>
    obtain ⟨rfl, hm⟩ := ht
    have hR := HR.out
    simp only [bind, Except.bind] at hR
    subst hR
    go_wp2_with fail
    exact ⟨rfl, rfl, HM3.out.trans hm⟩
   | ok y =>
    obtain ⟨m, a2⟩ := y
    have hR := HR.out
    simp only [bind, Except.bind] at hR
    subst hR
    obtain ⟨v, hv, rfl, hP4, hm4⟩ := ht
    obtain ⟨la, lc, ma, mc, rfl, hT4, hN4⟩ := hv.form
    have hZ4 := (hm4.block _ (by omega) (by omega)).trans HZ3.out
    have hM4 := HM3.out.trans hm4
    have hs4 := hm4.size
    have hZ4 : Blk NDT w.heap.size #[.int .i64 0, .string ⟨#[]⟩, .int .i64 0, .slice none 0 0, .slice none 0 0, .int .i64 0] w4 := hZ4
    have z0 := hZ4.c 0 _ rfl
    have z1 := hZ4.c 1 _ rfl
    have z2 := hZ4.c 2 _ rfl
    have z3 := hZ4.c 3 _ rfl
    have z4 := hZ4.c 4 _ rfl
    have z5 := hZ4.c 5 _ rfl
    have zf := hZ4.fz
    have HP4 := Lib.hid hP4
    have HM4 := Lib.hid hM4
    have HT4 := Lib.hid hT4
    have HN4 := Lib.hid hN4
    clear hv hP4 hM4 hT4 hN4 hZ4 hm4 e0 e1 e2 e3 e4 e5
    unfold ndA
    go_wp2_with fail
    refine bodyPost_ret (v := .tuple #[.agg #[.int .i64 m.kind, .string ⟨m.name.toArray⟩, .int .i64 m.num, .slice la m.kids.length lc, .slice ma m.names.length mc, .int .i64 m.at_], .bool true]) (by simp [results, Tryz.results163, go_sem, ndA, z0, z1, z2, z3, z4, z5]) rfl ?_
    refine ⟨_, ⟨_, _, rfl, (HT4.out.kp (kp_set6 ?_)).mono (fun j hj _ => ?_), (HN4.out.kp (kp_set6 ?_)).mono (fun j hj _ => ?_)⟩, rfl, pr_far6 HP4.out (by omega) (by omega), mv_set6 HM4.out (Nat.le_refl _)⟩
    all_goals (simp [New] at *)
    all_goals omega
end
end Pa
end Go.Proofs.YtmmgfifpjifjnaaGreatDoor
namespace Go.Proofs.YtmmgfifpjifjnaaGreatDoor
open Go.RowKit
namespace Pa
open Bs Sm Tr
open Lx (Mv)
section
variable {b : Nat} {L : List Pt} {tb tc : Nat} {bad : Int} {a d f : Nat} {w w' w0 : World} {S S' : Nat → Prop} {K : Nat} {x : Nd}
theorem bin_round (hL : LOk L) {g k : Nat} {n : Nd} {s : Bool} {R : PE (Nd × Bool × Nat)} (hk : k < L.length) (hg : 16 * (L.length - k) + 1 ≤ g) (h : binLoop L bad g d n s k = R) :
  (isK L 6 k = false → R = .ok (n, s, k)) ∧ (isK L 6 k = true → k + 1 < L.length ∧ ∃ g', g = g' + 1 ∧ (unP L bad g' d (k + 1) >>= fun r => binLoop L bad g' d (sendN (now L k) (now L k).word [n, r.1]) true r.2.2) = R) := by
 cases g with
 | zero => omega
 | succ g =>
  rw [binLoop] at h
  refine ⟨fun hq => ?_, fun hq => ?_⟩
  · rw [if_neg (by rw [hq]; simp)] at h; exact h.symm
  rw [if_pos hq] at h
  exact ⟨hL.next hq (by omega) hk, g, rfl, h⟩
set_option maxRecDepth 100000 in
set_option maxHeartbeats 3200000 in
theorem bin_step (hL : LOk L) (hall : ∀ g, g ≤ f → PA L bad g) (hP : Pr b L tb tc bad a d w) (ha : a < L.length) (hd : d ≤ 40) (hf : 16 * (L.length - a) + 4 ≤ f + 1) :
  Calls Tryz.prog 177 #[.pointer (some ⟨b, 0, none⟩)] w (NbO b L tb tc bad d (New w) (binP L bad (f + 1) d a) w) := by
 have hlen := hL.len
 have hbl := hP.blk.lt
 have htl := hP.lt
 have h := hall f (Nat.le_refl _)
 have hX := alloc_bel w (.cells z6 NDT)
 have HC := Lib.hid (h.un (hP.bel hX) ha hd (by omega))
 have hres := (PB.all (bad := bad) hL f).un d a ha
 obtain ⟨R, hR⟩ : ∃ R, binP L bad (f + 1) d a = R := ⟨_, rfl⟩
 rw [hR]
 rw [binP] at hR
 obtain ⟨E, hE⟩ : ∃ E, unP L bad f d a = E := ⟨_, rfl⟩
 rw [hE] at HC hres hR
 have HR := Lib.hid hR
 have HX := Lib.hid hX
 have HALL := Lib.hid hall
 have HL := Lib.hid hL
 clear hX hE h hP hR hall hL
 go_enter Tryz.func177, Tryz.ntmps177
 go_wp2_with fail
 refine HC.out.mono ?_; intro e w1 ht
 cases E with
 | error x =>
  obtain ⟨rfl, hm⟩ := ht
  have hR := HR.out
  simp only [bind, Except.bind] at hR
  subst hR
  go_wp2_with fail
  exact ⟨rfl, rfl, (Mv.of_bel HX.out).trans hm⟩
 | ok y =>
  obtain ⟨n, s, a1⟩ := y
  have hR := HR.out
  simp only [bind, Except.bind] at hR
  replace HR := Lib.hid hR
  clear hR
  obtain ⟨v, hv, rfl, hP1, hm1⟩ := ht
  obtain ⟨ka, kc, na, nc, rfl, hT, hN⟩ := hv.form
  obtain ⟨r1, r2, -, -⟩ := hres
  simp only at r1 r2
  have hs1 := hm1.size
  simp only [World.size_alloc] at hs1
  have hM1 := (Mv.of_bel (b := b) HX.out).trans hm1
  have hZ1 : Blk NDT w.heap.size z6 w1 := (hm1.block _ (by simp) (by omega)).trans (Blk.made w)
  have hT1 := hT.mono (S' := fun j => New w j ∧ j ≠ w.heap.size ∧ j ≠ w1.heap.size) (fun j hj hl => by unfold New at *; simp at hj; omega)
  have hN1 := hN.mono (S' := fun j => New w j ∧ j ≠ w.heap.size ∧ j ≠ w1.heap.size) (fun j hj hl => by unfold New at *; simp at hj; omega)
  have hbbA := alloc_bel w1 (.cells #[.int .i64 n.kind, .string ⟨n.name.toArray⟩, .int .i64 n.num, .slice ka n.kids.length kc, .slice na n.names.length nc, .int .i64 n.at_] NDT)
  have hMkA := Blk.made (T := NDT) (cs := #[.int .i64 n.kind, .string ⟨n.name.toArray⟩, .int .i64 n.num, .slice ka n.kids.length kc, .slice na n.names.length nc, .int .i64 n.at_]) w1
  have hszA : (w1.alloc (.cells #[.int .i64 n.kind, .string ⟨n.name.toArray⟩, .int .i64 n.num, .slice ka n.kids.length kc, .slice na n.names.length nc, .int .i64 n.at_] NDT)).heap.size = w1.heap.size + 1 := by simp
  have hP2 := hP1.bel hbbA
  have hM2 := hM1.alloc (.cells #[.int .i64 n.kind, .string ⟨n.name.toArray⟩, .int .i64 n.num, .slice ka n.kids.length kc, .slice na n.names.length nc, .int .i64 n.at_] NDT)
  have hZ2 := hZ1.alloc (.cells #[.int .i64 n.kind, .string ⟨n.name.toArray⟩, .int .i64 n.num, .slice ka n.kids.length kc, .slice na n.names.length nc, .int .i64 n.at_] NDT)
  have hT2 := hT1.bel hbbA
  have hN2 := hN1.below hbbA
  obtain ⟨W2, halA⟩ : ∃ W, w1.alloc (.cells #[.int .i64 n.kind, .string ⟨n.name.toArray⟩, .int .i64 n.num, .slice ka n.kids.length kc, .slice na n.names.length nc, .int .i64 n.at_] NDT) = W := ⟨_, rfl⟩
  rw [halA] at hMkA hszA hP2 hM2 hZ2 hT2 hN2
  clear hbbA
  have HP2 := Lib.hid hP2
  have HM2 := Lib.hid hM2
  have HZ2 := Lib.hid hZ2
  have HX2 : Hid (NBlk (fun j => New w j ∧ j ≠ w.heap.size ∧ j ≠ w1.heap.size) w1.heap.size n W2) := Lib.hid ⟨ka, kc, na, nc, hMkA, hT2, hN2⟩
  clear hv hm1 hP1 hT hN hZ1 hM1 hT1 hN1 hP2 hM2 hZ2 hT2 hN2 hMkA
  unfold ndA
  go_wp2_with fail
  go_loopw [5] (fun s wr => ∃ (k g : Nat) (x : Nd) (sb : Bool), s = .bool sb ∧ k < L.length ∧ 16 * (L.length - k) + 1 ≤ g ∧ g ≤ f ∧ Hid (binLoop L bad g d x sb k = R) ∧ Hid (NBlk (fun j => New w j ∧ j ≠ w.heap.size ∧ j ≠ w1.heap.size) w1.heap.size x wr) ∧ Hid (Blk NDT w.heap.size z6 wr) ∧ Hid (Pr b L tb tc bad k d wr) ∧ Hid (Mv b w wr) ∧ w1.heap.size < wr.heap.size) (fun _ wr => L.length - atP b wr)
  case atStart => exact ⟨a1, f, n, s, rfl, r2, by omega, Nat.le_refl _, HR, HX2, HZ2, HP2, HM2, by omega⟩
  obtain ⟨k, g, x, sb, rfl, hk, hg, hgf, HEk, HX4, HZ, HPk, HMv, hlt⟩ := hrel
  have hatk := HPk.out.at_
  have hrd := bin_round HL.out hk hg HEk.out
  have HI := Lib.hid (is_any HPk.out hk 6)
  obtain ⟨q, hq⟩ : ∃ t, isK L 6 k = t := ⟨_, rfl⟩
  obtain ⟨t, ht⟩ : ∃ t, now L k = t := ⟨_, rfl⟩
  rw [hq] at HI hrd
  rw [ht] at hrd
  have HNX := fun w' (hb : Below wr.heap.size wr w') => next_any (HPk.out.bel hb) hk hlen
  rw [ht] at HNX
  replace HNX := Lib.hid HNX
  have HRD := Lib.hid hrd
  have hms := HMv.out.size
  clear hrd hq ht HEk halA HX2 HZ2 HP2 HM2 HR
  go_wp2_with fail
  refine HI.out.mono ?_; rintro e w2 ⟨rfl, hb2⟩
  have hs2 := hb2.size
  cases q with
  | false =>
   have hEE := HRD.out.1 (by first | rfl | trivial)
   obtain ⟨xa, xc, ya, yc, hB4, hT4, hN4⟩ := HX4.out.bel hb2
   have hZ2 := HZ.out.below hb2 (by omega)
   have hP2 := HPk.out.bel hb2
   have hM2 := HMv.out.trans (Mv.of_bel hb2)
   unfold ndA at hB4
   unfold z6 at hZ2
   have e0 := hB4.c 0 _ rfl
   have e1 := hB4.c 1 _ rfl
   have e2 := hB4.c 2 _ rfl
   have e3 := hB4.c 3 _ rfl
   have e4 := hB4.c 4 _ rfl
   have e5 := hB4.c 5 _ rfl
   have z0 := hZ2.c 0 _ rfl
   have z1 := hZ2.c 1 _ rfl
   have z2 := hZ2.c 2 _ rfl
   have z3 := hZ2.c 3 _ rfl
   have z4 := hZ2.c 4 _ rfl
   have z5 := hZ2.c 5 _ rfl
   have zf := hZ2.fz
   have HP2 := Lib.hid hP2
   have HM2 := Lib.hid hM2
   have HT4 := Lib.hid hT4
   have HN4 := Lib.hid hN4
   clear HRD HX4 HZ HPk HMv hB4 hZ2 hP2 hM2 hT4 hN4
   subst hEE
   go_wp2_with fail
   refine bodyPost_ret (v := .tuple #[.agg #[.int .i64 x.kind, .string ⟨x.name.toArray⟩, .int .i64 x.num, .slice xa x.kids.length xc, .slice ya x.names.length yc, .int .i64 x.at_], .bool sb]) (by simp [results, Tryz.results177, go_sem, ndA, z0, z1, z2, z3, z4, z5]) rfl ?_
   refine ⟨_, ⟨_, _, rfl, (HT4.out.kp (kp_set6 ?_)).mono (fun j hj _ => hj.1), (HN4.out.kp (kp_set6 ?_)).mono (fun j hj _ => hj.1)⟩, rfl, pr_far6 HP2.out (by omega) (by omega), mv_set6 HM2.out (Nat.le_refl _)⟩
   all_goals simp
  | true =>
   obtain ⟨hk1, g', rfl, hRR⟩ := HRD.out.2 (by first | rfl | trivial)
   have hg2 : 16 * (L.length - (k + 1)) + 3 ≤ g' := by omega
   have HU := fun (w' : World) (hp : Pr b L tb tc bad (k + 1) d w') => (HALL.out g' (by omega)).un hp hk1 hd hg2
   have hres := (PB.all (bad := bad) HL.out g').un d (k + 1) hk1
   obtain ⟨E, hE⟩ : ∃ E, unP L bad g' d (k + 1) = E := ⟨_, rfl⟩
   rw [hE] at HU hRR hres
   replace HU := Lib.hid HU
   have HRR := Lib.hid hRR
   clear HRD hE hRR
   go_wp2_with fail
   refine (HNX.out w2 hb2).mono ?_; rintro e w3 ⟨rfl, hP3, hm3⟩
   have hX3 := (HX4.out.bel hb2).mv hm3 (by omega) (by unfold New; omega)
   have hZ3 : Blk NDT w.heap.size z6 w3 := (hm3.block _ (by omega) (by omega)).trans (HZ.out.below hb2 (by omega))
   have hM3 := (HMv.out.trans (Mv.of_bel hb2)).trans hm3
   have hs3 := hm3.size
   have hbbB := alloc_bel w3 (.cells #[.int .i64 t.kind, .string ⟨t.word.toArray⟩, .int .i64 t.num, .int .i64 t.at_] KT)
   have hMkB := Blk.made (T := KT) (cs := #[.int .i64 t.kind, .string ⟨t.word.toArray⟩, .int .i64 t.num, .int .i64 t.at_]) w3
   have hszB : (w3.alloc (.cells #[.int .i64 t.kind, .string ⟨t.word.toArray⟩, .int .i64 t.num, .int .i64 t.at_] KT)).heap.size = w3.heap.size + 1 := by simp
   have hP4 := hP3.bel hbbB
   have hM4 := hM3.alloc (.cells #[.int .i64 t.kind, .string ⟨t.word.toArray⟩, .int .i64 t.num, .int .i64 t.at_] KT)
   have hZ4 := hZ3.alloc (.cells #[.int .i64 t.kind, .string ⟨t.word.toArray⟩, .int .i64 t.num, .int .i64 t.at_] KT)
   have hX4 := hX3.bel hbbB
   obtain ⟨W4, halB⟩ : ∃ W, w3.alloc (.cells #[.int .i64 t.kind, .string ⟨t.word.toArray⟩, .int .i64 t.num, .int .i64 t.at_] KT) = W := ⟨_, rfl⟩
   rw [halB] at hMkB hszB hP4 hM4 hZ4 hX4
   clear hbbB
   have HP4 := Lib.hid hP4
   have HM4 := Lib.hid hM4
   have HZ4 := Lib.hid hZ4
   have HX5 := Lib.hid hX4
   have HK4 := Lib.hid hMkB
   clear HX4 HZ HPk HMv hP3 hm3 hX3 hZ3 hM3 hP4 hM4 hZ4 hX4 hMkB
   unfold ptV
   go_wp2_with fail
   refine (HU.out W4 HP4.out).mono ?_; intro e w5 ht
   cases E with
   | error y =>
    obtain ⟨rfl, hm⟩ := ht
    have hR := HRR.out
    simp only [bind, Except.bind] at hR
    subst hR
    go_wp2_with fail
    exact ⟨rfl, rfl, HM4.out.trans hm⟩
   | ok y =>
    obtain ⟨y, s2, a2⟩ := y
    have hR := HRR.out
    simp only [bind, Except.bind] at hR
    replace HRR := Lib.hid hR
    clear hR
    obtain ⟨v, hv, rfl, hP5, hm5⟩ := ht
    obtain ⟨la, lc, ma, mc, rfl, hTy, hNy⟩ := hv.form
    obtain ⟨q1, q2, -, -⟩ := hres
    simp only at q1 q2
    have hs5 := hm5.size
    have hX5 := HX5.out.mv hm5 (by omega) (by unfold New; omega)
    have hZ5 : Blk NDT w.heap.size z6 w5 := (hm5.block _ (by omega) (by omega)).trans HZ4.out
    have hK5 : Blk KT w3.heap.size #[.int .i64 t.kind, .string ⟨t.word.toArray⟩, .int .i64 t.num, .int .i64 t.at_] w5 := (hm5.block _ (by omega) (by omega)).trans HK4.out
    have hM5 := HM4.out.trans hm5
    have hTy1 := hTy.mono (S' := (fun j => New w j ∧ j ≠ w.heap.size ∧ j ≠ w1.heap.size)) (fun j hj hl => by unfold New at *; omega)
    have hNy1 := hNy.mono (S' := (fun j => New w j ∧ j ≠ w.heap.size ∧ j ≠ w1.heap.size)) (fun j hj hl => by unfold New at *; omega)
    have hbbC := alloc_bel w5 (.cells #[.int .i64 y.kind, .string ⟨y.name.toArray⟩, .int .i64 y.num, .slice la y.kids.length lc, .slice ma y.names.length mc, .int .i64 y.at_] NDT)
    have hMkC := Blk.made (T := NDT) (cs := #[.int .i64 y.kind, .string ⟨y.name.toArray⟩, .int .i64 y.num, .slice la y.kids.length lc, .slice ma y.names.length mc, .int .i64 y.at_]) w5
    have hszC : (w5.alloc (.cells #[.int .i64 y.kind, .string ⟨y.name.toArray⟩, .int .i64 y.num, .slice la y.kids.length lc, .slice ma y.names.length mc, .int .i64 y.at_] NDT)).heap.size = w5.heap.size + 1 := by simp
    have hP6 := hP5.bel hbbC
    have hM6 := hM5.alloc (.cells #[.int .i64 y.kind, .string ⟨y.name.toArray⟩, .int .i64 y.num, .slice la y.kids.length lc, .slice ma y.names.length mc, .int .i64 y.at_] NDT)
    have hZ6 := hZ5.alloc (.cells #[.int .i64 y.kind, .string ⟨y.name.toArray⟩, .int .i64 y.num, .slice la y.kids.length lc, .slice ma y.names.length mc, .int .i64 y.at_] NDT)
    have hX6 := hX5.bel hbbC
    have hK6 := hK5.alloc (.cells #[.int .i64 y.kind, .string ⟨y.name.toArray⟩, .int .i64 y.num, .slice la y.kids.length lc, .slice ma y.names.length mc, .int .i64 y.at_] NDT)
    have hTy6 := hTy1.bel hbbC
    have hNy6 := hNy1.below hbbC
    obtain ⟨W6, halC⟩ : ∃ W, w5.alloc (.cells #[.int .i64 y.kind, .string ⟨y.name.toArray⟩, .int .i64 y.num, .slice la y.kids.length lc, .slice ma y.names.length mc, .int .i64 y.at_] NDT) = W := ⟨_, rfl⟩
    rw [halC] at hMkC hszC hP6 hM6 hZ6 hX6 hK6 hTy6 hNy6
    clear hbbC
    obtain ⟨xa, xc, ya, yc, hB6, hT6, hN6⟩ := hX6
    unfold ndA at hB6
    have e0 := hB6.c 0 _ rfl
    have e1 := hB6.c 1 _ rfl
    have e2 := hB6.c 2 _ rfl
    have e3 := hB6.c 3 _ rfl
    have e4 := hB6.c 4 _ rfl
    have e5 := hB6.c 5 _ rfl
    have f0 := hMkC.c 0 _ rfl
    have f1 := hMkC.c 1 _ rfl
    have f2 := hMkC.c 2 _ rfl
    have f3 := hMkC.c 3 _ rfl
    have f4 := hMkC.c 4 _ rfl
    have f5 := hMkC.c 5 _ rfl
    have k0 := hK6.c 0 _ rfl
    have k1 := hK6.c 1 _ rfl
    have k2 := hK6.c 2 _ rfl
    have k3 := hK6.c 3 _ rfl
    have hbbD := alloc_bel W6 (.cells #[.int .i64 x.kind, .string ⟨x.name.toArray⟩, .int .i64 x.num, .slice xa x.kids.length xc, .slice ya x.names.length yc, .int .i64 x.at_, .int .i64 y.kind, .string ⟨y.name.toArray⟩, .int .i64 y.num, .slice la y.kids.length lc, .slice ma y.names.length mc, .int .i64 y.at_] NDT)
    have hMkD := Blk.made (T := NDT) (cs := #[.int .i64 x.kind, .string ⟨x.name.toArray⟩, .int .i64 x.num, .slice xa x.kids.length xc, .slice ya x.names.length yc, .int .i64 x.at_, .int .i64 y.kind, .string ⟨y.name.toArray⟩, .int .i64 y.num, .slice la y.kids.length lc, .slice ma y.names.length mc, .int .i64 y.at_]) W6
    have hszD : (W6.alloc (.cells #[.int .i64 x.kind, .string ⟨x.name.toArray⟩, .int .i64 x.num, .slice xa x.kids.length xc, .slice ya x.names.length yc, .int .i64 x.at_, .int .i64 y.kind, .string ⟨y.name.toArray⟩, .int .i64 y.num, .slice la y.kids.length lc, .slice ma y.names.length mc, .int .i64 y.at_] NDT)).heap.size = W6.heap.size + 1 := by simp
    have hP7 := hP6.bel hbbD
    have hM7 := hM6.alloc (.cells #[.int .i64 x.kind, .string ⟨x.name.toArray⟩, .int .i64 x.num, .slice xa x.kids.length xc, .slice ya x.names.length yc, .int .i64 x.at_, .int .i64 y.kind, .string ⟨y.name.toArray⟩, .int .i64 y.num, .slice la y.kids.length lc, .slice ma y.names.length mc, .int .i64 y.at_] NDT)
    have hZ7 := hZ6.alloc (.cells #[.int .i64 x.kind, .string ⟨x.name.toArray⟩, .int .i64 x.num, .slice xa x.kids.length xc, .slice ya x.names.length yc, .int .i64 x.at_, .int .i64 y.kind, .string ⟨y.name.toArray⟩, .int .i64 y.num, .slice la y.kids.length lc, .slice ma y.names.length mc, .int .i64 y.at_] NDT)
    have hB7 := hB6.alloc (.cells #[.int .i64 x.kind, .string ⟨x.name.toArray⟩, .int .i64 x.num, .slice xa x.kids.length xc, .slice ya x.names.length yc, .int .i64 x.at_, .int .i64 y.kind, .string ⟨y.name.toArray⟩, .int .i64 y.num, .slice la y.kids.length lc, .slice ma y.names.length mc, .int .i64 y.at_] NDT)
    have hTy7 := hTy6.bel hbbD
    have hNy7 := hNy6.below hbbD
    have hT7 := hT6.bel hbbD
    have hN7 := hN6.below hbbD
    obtain ⟨W7, halD⟩ : ∃ W, W6.alloc (.cells #[.int .i64 x.kind, .string ⟨x.name.toArray⟩, .int .i64 x.num, .slice xa x.kids.length xc, .slice ya x.names.length yc, .int .i64 x.at_, .int .i64 y.kind, .string ⟨y.name.toArray⟩, .int .i64 y.num, .slice la y.kids.length lc, .slice ma y.names.length mc, .int .i64 y.at_] NDT) = W := ⟨_, rfl⟩
    rw [halD] at hMkD hszD hP7 hM7 hZ7 hB7 hTy7 hNy7 hT7 hN7
    clear hbbD
    have hG : Tree (fun j => New w j ∧ j ≠ w.heap.size ∧ j ≠ w1.heap.size) W7 (.slice (some ⟨W6.heap.size, 0, none⟩) 2 2) [x, y] := tree_two (T := NDT) hMkD (by unfold New; omega) hT7 hN7 hTy7 hNy7
    rw [hszC] at hG
    have HP7 := Lib.hid hP7
    have HM7 := Lib.hid hM7
    have HZ7 := Lib.hid hZ7
    have HB7 := Lib.hid hB7
    have HG := Lib.hid hG
    clear HX5 HZ4 HK4 HM4 HP4 hv hm5 hP5 hTy hNy hX5 hZ5 hK5 hM5 hTy1 hNy1 hP6 hM6 hZ6 hK6 hTy6 hNy6 hB6 hT6 hN6 hP7 hM7 hZ7 hB7 hTy7 hNy7 hT7 hN7 hG hMkC hMkD
    unfold ndA
    go_wp2_with fail
    refine (send_any t ⟨t.word.toArray⟩ (some ⟨w5.heap.size + 1, 0, none⟩) 2 2 W7).mono ?_; rintro e w8 ⟨rfl, hb8⟩
    have hs8 := hb8.size
    have hP8 := HP7.out.bel hb8
    have hM8 := HM7.out.trans (Mv.of_bel hb8)
    have hB8 := HB7.out.below hb8 (by omega)
    have hZ8 := HZ7.out.below hb8 (by omega)
    have hG8 := HG.out.bel hb8
    clear e0 e1 e2 e3 e4 e5 f0 f1 f2 f3 f4 f5 k0 k1 k2 k3 hb8 halB halC halD
    have e0 := hB8.c 0 _ rfl
    have e1 := hB8.c 1 _ rfl
    have e2 := hB8.c 2 _ rfl
    have e3 := hB8.c 3 _ rfl
    have e4 := hB8.c 4 _ rfl
    have e5 := hB8.c 5 _ rfl
    have ef := hB8.fz
    have HP8 := Lib.hid hP8
    have HM8 := Lib.hid hM8
    have HB8 := Lib.hid hB8
    have HZ8 := Lib.hid hZ8
    have HG8 := Lib.hid hG8
    clear hP8 hM8 hB8 hZ8 hG8 HP7 HM7 HB7 HZ7 HG
    go_wp2_with fail
    have hP9 := pr_far6 (k := w1.heap.size) (v0 := .int .i64 7) (v1 := .string ⟨t.word.toArray⟩) (v2 := .int .i64 0) (v3 := .slice (some ⟨w5.heap.size + 1, 0, none⟩) 2 2) (v4 := .slice none 0 0) (v5 := .int .i64 t.at_) HP8.out (by omega) (by omega)
    refine ⟨⟨a2, g', sendN t t.word [x, y], true, rfl, q2, by omega, by omega, HRR, Lib.hid ⟨_, _, _, _, blk_set6 HB8.out, HG8.out.kp (kp_set6 (by simp)), rd_none _ _⟩, Lib.hid (blk_far6 HZ8.out (by omega)), Lib.hid hP9, Lib.hid (mv_set6 HM8.out (by omega)), by rw [size_set6]; omega⟩, ?_⟩
    rw [hP9.at_]; omega
end
end Pa
end Go.Proofs.YtmmgfifpjifjnaaGreatDoor
namespace Go.Proofs.YtmmgfifpjifjnaaGreatDoor
open Go.RowKit
namespace Pa
open Bs Sm Tr
open Lx (Mv)
section
variable {b : Nat} {L : List Pt} {tb tc : Nat} {bad : Int} {a d f : Nat} {w w' w0 : World} {S S' : Nat → Prop} {K : Nat} {x : Nd}
theorem ownT_mv {T B : Nat} {v : Value} {l : List Nd} (h : OwnT T B S w v l) (hm : Mv b w w') (hB : b < B) (hS : ¬ S b) : OwnT T B S w' v l :=
 h.kp hm.size (fun k hk hs => hm.block k hk (fun e => by rcases hs with hs | hs; exact hS (e ▸ hs); omega))
theorem stmts_round (hL : LOk L) {g k : Nat} {out : List Nd} {e : Int} {R : PE (List Nd × Nat)} (hg : 16 * (L.length - k) + 9 ≤ g) (h : stmtsP L bad g d e k out = R) :
  (isK L e k = true → endP L bad e k out = R) ∧ (isK L e k = false → ∃ g', g = g' + 1 ∧ (stmtP L bad g' d k >>= fun r => if isK L 9 r.2.2 = true then (if r.2.1 = true then endP L bad e (r.2.2 + 1) (out ++ [r.1]) else stmtsP L bad g' d e (r.2.2 + 1) (out ++ [r.1])) else endP L bad e r.2.2 (out ++ [r.1])) = R) := by
 cases g with
 | zero => omega
 | succ g =>
  rw [stmtsP] at h
  refine ⟨fun hq => ?_, fun hq => ?_⟩
  · rw [if_pos hq] at h
    unfold endP
    rw [if_pos hq]; exact h
  rw [if_neg (by rw [hq]; simp)] at h
  exact ⟨g, rfl, h⟩
set_option maxRecDepth 100000 in
set_option maxHeartbeats 3200000 in
theorem stmts_step (hL : LOk L) (hall : ∀ g, g ≤ f → PA L bad g) (hP : Pr b L tb tc bad a d w) (ha : a < L.length) (hd : d ≤ 40) {e : Int} (he : e = 0 ∨ e = 14) (hf : 16 * (L.length - a) + 9 ≤ f + 1) :
  Calls Tryz.prog 64 #[.pointer (some ⟨b, 0, none⟩), .int .i64 e] w (NsO b L tb tc bad d (New w) (stmtsP L bad (f + 1) d e a []) w) := by
 have hlen := hL.len
 have hbl := hP.blk.lt
 have htl := hP.lt
 obtain ⟨i0, hi0, hz0, hz1, hz2⟩ := info_parts (show (Tryz.prog.info? NDT).map (fun i => (i.zero, i.size, i.bytes)) = some (some (.agg #[.int .i64 0, .string ⟨#[]⟩, .int .i64 0, .slice none 0 0, .slice none 0 0, .int .i64 0]), 6, 88) by kernel_rfl)
 have tsl : Tryz.prog.underlying 31 = some (.slice NDT) := by kernel_rfl
 obtain ⟨R, hR⟩ : ∃ R, stmtsP L bad (f + 1) d e a [] = R := ⟨_, rfl⟩
 rw [hR]
 have HR := Lib.hid hR
 have HP := Lib.hid hP
 have HALL := Lib.hid hall
 have HL := Lib.hid hL
 have HE := Lib.hid he
 clear hR hP hall hL he
 go_enter Tryz.func64, Tryz.ntmps64
 go_wp2_with fail
 go_loopw [5] (fun o wr => ∃ (k g : Nat) (out : List Nd), k < L.length ∧ out.length ≤ k ∧ 16 * (L.length - k) + 9 ≤ g ∧ g ≤ f + 1 ∧ Hid (stmtsP L bad g d e k out = R) ∧ Hid (OwnT NDT w.heap.size (New w) wr o out) ∧ Hid (Pr b L tb tc bad k d wr) ∧ Hid (Mv b w wr)) (fun _ wr => L.length - atP b wr)
 case atStart => exact ⟨a, f + 1, [], ha, Nat.zero_le _, by omega, Nat.le_refl _, HR, Lib.hid (OwnT.nil _ _ _ _), HP, Lib.hid (Mv.refl _ _)⟩
 obtain ⟨k, g, out, hk, hok, hg, hgf, HEk, HOw, HPk, HMv⟩ := hrel
 have hatk := HPk.out.at_
 have hrd := stmts_round HL.out hg HEk.out
 have HI := Lib.hid (is_any HPk.out hk e)
 have HIB := fun w' (hb : Below wr.heap.size wr w') => is_any (HPk.out.bel hb) hk e
 obtain ⟨q, hq⟩ : ∃ t, isK L e k = t := ⟨_, rfl⟩
 have HQ := Lib.hid hq
 rw [hq] at HI hrd HIB
 have HRD := Lib.hid hrd
 replace HIB := Lib.hid HIB
 have hms := HMv.out.size
 clear hrd hq HEk
 go_wp2_with fail
 refine HI.out.mono ?_; rintro er w1 ⟨rfl, hb1⟩
 have hs1 := hb1.size
 cases q with
 | true =>
  have hR := HRD.out.1 (by first | rfl | trivial)
  unfold endP at hR
  rw [if_pos HQ.out] at hR
  subst hR
  go_wp2_with fail
  refine (HIB.out w1 hb1).mono ?_; rintro er w2 ⟨rfl, hb2⟩
  have hb := hb1.trans (hb2.mono hb1.size)
  have how := HOw.out.bel hb
  have hP2 := HPk.out.bel hb
  have hM2 := HMv.out.trans (Mv.of_bel hb)
  have hT2 : Tree (New w) w2 u5 out := how.tree.mono (fun j hj _ => by
   rcases hj with hj | hj
   · exact hj
   obtain ⟨vl, -, hr, -⟩ := how
   exact (hr.lt j hj).1)
  have HT2 := Lib.hid hT2
  have HP2 := Lib.hid hP2
  have HM2 := Lib.hid hM2
  clear HOw HPk HMv hb how hP2 hM2 hT2 hb1 hb2 HRD HIB
  go_wp2_with fail
  go_ret
  exact ⟨_, HT2.out, rfl, HP2.out, HM2.out⟩
 | false =>
  obtain ⟨g', rfl, hR⟩ := HRD.out.2 (by first | rfl | trivial)
  have HC := fun (w' : World) (hp : Pr b L tb tc bad k d w') => (HALL.out g' (by omega)).stmt hp hk hd (by omega)
  have hres := (PB.all (bad := bad) HL.out g').stmt d k hk
  obtain ⟨E, hE⟩ : ∃ E, stmtP L bad g' d k = E := ⟨_, rfl⟩
  rw [hE] at HC hR hres
  replace HC := Lib.hid HC
  have HR2 := Lib.hid hR
  clear hR HRD hE HIB HR
  go_wp2_with fail
  refine (HC.out w1 (HPk.out.bel hb1)).mono ?_; intro er w2 ht
  cases E with
  | error y =>
   obtain ⟨rfl, hm⟩ := ht
   have hR := HR2.out
   simp only [bind, Except.bind] at hR
   subst hR
   go_wp2_with fail
   exact ⟨rfl, rfl, (HMv.out.trans (Mv.of_bel hb1)).trans hm⟩
  | ok y =>
   obtain ⟨n, l, k2⟩ := y
   have hR := HR2.out
   simp only [bind, Except.bind] at hR
   replace HR2 := Lib.hid hR
   clear hR
   obtain ⟨v, hv, rfl, hP2, hm2⟩ := ht
   obtain ⟨ka, kc, na, nc, rfl, hT, hN⟩ := hv.form
   obtain ⟨r1, r2, -, -⟩ := hres
   simp only at r1 r2
   have hs2 := hm2.size
   have hO2 := ownT_mv (HOw.out.bel hb1) hm2 hbl (by unfold New; omega)
   have hM2 := (HMv.out.trans (Mv.of_bel hb1)).trans hm2
   have hob : ∀ j, u5.ownBlock = some j → w.heap.size ≤ j ∧ j < w1.heap.size := fun j hj => by
    obtain ⟨vl', -, hr', -⟩ := HOw.out.bel hb1
    exact hr'.lt j hj
   have hT2 := hT.mono (S' := fun j => New w j ∧ u5.ownBlock ≠ some j) (fun j hj hl => by unfold New at *; exact ⟨by omega, fun h => by have := hob j h; omega⟩)
   have hN2 := hN.mono (S' := fun j => New w j ∧ u5.ownBlock ≠ some j) (fun j hj hl => by unfold New at *; exact ⟨by omega, fun h => by have := hob j h; omega⟩)
   have hbbA := alloc_bel w2 (.cells #[.int .i64 n.kind, .string ⟨n.name.toArray⟩, .int .i64 n.num, .slice ka n.kids.length kc, .slice na n.names.length nc, .int .i64 n.at_] NDT)
   have hMkA := Blk.made (T := NDT) (cs := #[.int .i64 n.kind, .string ⟨n.name.toArray⟩, .int .i64 n.num, .slice ka n.kids.length kc, .slice na n.names.length nc, .int .i64 n.at_]) w2
   have hszA : (w2.alloc (.cells #[.int .i64 n.kind, .string ⟨n.name.toArray⟩, .int .i64 n.num, .slice ka n.kids.length kc, .slice na n.names.length nc, .int .i64 n.at_] NDT)).heap.size = w2.heap.size + 1 := by simp
   have hP3 := hP2.bel hbbA
   have hM3 := hM2.alloc (.cells #[.int .i64 n.kind, .string ⟨n.name.toArray⟩, .int .i64 n.num, .slice ka n.kids.length kc, .slice na n.names.length nc, .int .i64 n.at_] NDT)
   have hO3 := hO2.bel hbbA
   have hT3 := hT2.bel hbbA
   have hN3 := hN2.below hbbA
   obtain ⟨W3, halA⟩ : ∃ W, w2.alloc (.cells #[.int .i64 n.kind, .string ⟨n.name.toArray⟩, .int .i64 n.num, .slice ka n.kids.length kc, .slice na n.names.length nc, .int .i64 n.at_] NDT) = W := ⟨_, rfl⟩
   rw [halA] at hMkA hszA hP3 hM3 hO3 hT3 hN3
   clear hbbA
   have e0 := hMkA.c 0 _ rfl
   have e1 := hMkA.c 1 _ rfl
   have e2 := hMkA.c 2 _ rfl
   have e3 := hMkA.c 3 _ rfl
   have e4 := hMkA.c 4 _ rfl
   have e5 := hMkA.c 5 _ rfl
   have hbbB := alloc_bel W3 (.cells #[.int .i64 n.kind, .string ⟨n.name.toArray⟩, .int .i64 n.num, .slice ka n.kids.length kc, .slice na n.names.length nc, .int .i64 n.at_] NDT)
   have hMkB := Blk.made (T := NDT) (cs := #[.int .i64 n.kind, .string ⟨n.name.toArray⟩, .int .i64 n.num, .slice ka n.kids.length kc, .slice na n.names.length nc, .int .i64 n.at_]) W3
   have hszB : (W3.alloc (.cells #[.int .i64 n.kind, .string ⟨n.name.toArray⟩, .int .i64 n.num, .slice ka n.kids.length kc, .slice na n.names.length nc, .int .i64 n.at_] NDT)).heap.size = W3.heap.size + 1 := by simp
   have hP4 := hP3.bel hbbB
   have hM4 := hM3.alloc (.cells #[.int .i64 n.kind, .string ⟨n.name.toArray⟩, .int .i64 n.num, .slice ka n.kids.length kc, .slice na n.names.length nc, .int .i64 n.at_] NDT)
   have hO4 := hO3.bel hbbB
   have hT4 := hT3.bel hbbB
   have hN4 := hN3.below hbbB
   obtain ⟨W4, halB⟩ : ∃ W, W3.alloc (.cells #[.int .i64 n.kind, .string ⟨n.name.toArray⟩, .int .i64 n.num, .slice ka n.kids.length kc, .slice na n.names.length nc, .int .i64 n.at_] NDT) = W := ⟨_, rfl⟩
   rw [halB] at hMkB hszB hP4 hM4 hO4 hT4 hN4
   clear hbbB
   obtain ⟨vl, hvl, hrow, hsub⟩ := hO4
   have hvll : vl.length = out.length := by have := congrArg List.length hvl; rwa [List.length_map] at this
   have hms4 := hM4.size
   rw [hszA] at hMkB
   have hnews := World.news_of_block hMkB
   have HP4 := Lib.hid hP4
   have HM4 := Lib.hid hM4
   have HT4 := Lib.hid hT4
   have HN4 := Lib.hid hN4
   have HROW := Lib.hid hrow
   have HSUB := Lib.hid hsub
   have HVL := Lib.hid hvl
   have HVLL := Lib.hid hvll
   have HNEWS := Lib.hid hnews
   have HOB := Lib.hid hob
   clear hv hP2 hm2 hT hN hO2 hM2 hob hT2 hN2 hP3 hM3 hO3 hT3 hN3 hP4 hM4 hT4 hN4 hrow hsub hvl hvll hnews hMkA hMkB HOw HPk HMv
   unfold ndA
   go_wp2_with (at_builtin; refine wpList_append_lies _ rfl _ _ 31 rfl w.heap.size NDT i0 (.agg #[.int .i64 0, .string ⟨#[]⟩, .int .i64 0, .slice none 0 0, .slice none 0 0, .int .i64 0]) 6 88 tsl hi0 hz0 hz1 hz2 rfl (by decide) _ vl.length (flatN vl) rfl HROW.out ⟨w2.heap.size + 1, 0, none⟩ 1 1 [.int .i64 n.kind, .string ⟨n.name.toArray⟩, .int .i64 n.num, .slice ka n.kids.length kc, .slice na n.names.length nc, .int .i64 n.at_] rfl rfl HNEWS.out (fun u hu => by simp at hu; rcases hu with rfl | rfl | rfl | rfl | rfl | rfl <;> rfl) (by decide) (by have := HVLL.out; unfold maxLen; omega) (by have := HVLL.out; omega) (by omega) _ rfl ?_)
   intro gb cap w5 hown5 hgrow5 hat5 hlt5
   have hsn := own_snoc (n := vl.length) (S := New w) (x := n) (kv := .slice ka n.kids.length kc) (nv := .slice na n.names.length nc) rfl hgrow5.size HSUB.out HT4.out HN4.out hown5 hgrow5 (by rw [hszB, hszA]; exact hat5)
   rw [HVL.out] at hsn
   have hob2 : ∀ j, u5.ownBlock = some j → w.heap.size ≤ j := fun j hj => (HOB.out j hj).1
   have hP5 := HP4.out.grown hgrow5 (fun h => by have := hob2 _ h; omega) (fun h => by have := hob2 _ h; omega)
   have hM5 := Mv.grown HM4.out hgrow5 hob2
   have hK5 : True := trivial
   have hs5 := hgrow5.size
   have HSN := Lib.hid hsn
   have HP5 := Lib.hid hP5
   have HM5 := Lib.hid hM5
   have HI9 := Lib.hid (is_any hP5 r2 9)
   have hm5s := hM5.size
   clear hown5 hgrow5 hat5 hsn hP5 hM5 HROW HSUB HT4 HN4 HP4 HM4 HNEWS e0 e1 e2 e3 e4 e5 halA halB
   obtain ⟨q9, hq9⟩ : ∃ t, isK L 9 k2 = t := ⟨_, rfl⟩
   rw [hq9] at HI9
   have hnx : q9 = true → k2 + 1 < L.length := fun h => HL.out.next (hq9.trans h) (by omega) r2
   have HQ9 := Lib.hid hq9
   clear hq9
   go_wp2_with fail
   refine HI9.out.mono ?_; rintro er w6 ⟨rfl, hb6⟩
   have hs6 := hb6.size
   cases q9 with
   | false =>
    have hR := HR2.out
    rw [if_neg (by rw [HQ9.out]; simp)] at hR
    unfold endP at hR
    have HPt := Lib.hid (HP5.out.bel hb6)
    have HOt := Lib.hid (HSN.out.bel hb6)
    have HMt := Lib.hid (HM5.out.trans (Mv.of_bel hb6))
    have hkk := r2
    obtain ⟨Wt, hWt⟩ : ∃ W, w6 = W := ⟨_, rfl⟩
    rw [hWt] at HPt HOt HMt ⊢
    clear HSN HP5 HM5 HI9 hb6 hWt HR2
    have HIt := fun w' (hb : Below Wt.heap.size Wt w') => is_any (HPt.out.bel hb) hkk e
    have HSt := fun w' (hb : Below Wt.heap.size Wt w') => stop_any (HPt.out.bel hb) hkk
    have HIe := Lib.hid (HIt Wt (Below.refl _ _))
    obtain ⟨qt, hqt⟩ : ∃ t, isK L e k2 = t := ⟨_, rfl⟩
    rw [hqt] at HIe
    replace HSt := Lib.hid HSt
    have HQt := Lib.hid hqt
    clear HIt hqt
    cases qt with
    | true =>
     rw [if_pos HQt.out] at hR
     subst hR
     go_wp2_with fail
     refine HIe.out.mono ?_; rintro er w8 ⟨rfl, hb8⟩
     have how := HOt.out.bel hb8
     have hT8 : Tree (New w) w8 (.slice (some ⟨gb, 0, none⟩) (vl.length + 1) cap) (out ++ [n]) := how.tree.mono (fun j hj _ => by
      rcases hj with hj | hj
      · exact hj
      obtain ⟨vl, -, hr, -⟩ := how
      exact (hr.lt j hj).1)
     have HT8 := Lib.hid hT8
     have HP8 := Lib.hid (HPt.out.bel hb8)
     have HM8 := Lib.hid (HMt.out.trans (Mv.of_bel hb8))
     clear how hT8 hb8 HOt
     go_wp2_with fail
     go_ret
     exact ⟨_, HT8.out, rfl, HP8.out, HM8.out⟩
    | false =>
     rw [if_neg (by rw [HQt.out]; simp)] at hR
     subst hR
     go_wp2_with fail
     refine HIe.out.mono ?_; rintro er w8 ⟨rfl, hb8⟩
     go_wp2_with fail
     refine (HSt.out w8 hb8).mono ?_; rintro er w9 ⟨rfl, hm9⟩
     go_wp2_with fail
     exact ⟨rfl, rfl, (HMt.out.trans (Mv.of_bel hb8)).trans hm9⟩
   | true =>
    have hk3 := hnx rfl
    have hR := HR2.out
    rw [if_pos HQ9.out] at hR
    have hP6 := HP5.out.bel hb6
    have hO6 := HSN.out.bel hb6
    have hM6 := HM5.out.trans (Mv.of_bel hb6)
    have c2 := hP6.c2
    have f2 := hP6.blk.fz 2
    have wk : IntKind.i64.wrap ((k2 : Int) + 1) = (k2 : Int) + 1 := IntWalk.i64_in _ (by omega)
    obtain ⟨Wt, hWt⟩ : ∃ W, w6.setCell ⟨b, 2, none⟩ (.int .i64 ((k2 : Int) + 1)) = W := ⟨_, rfl⟩
    have HPt : Hid (Pr b L tb tc bad (k2 + 1) d Wt) := Lib.hid (by rw [← hWt]; exact hP6.setA (k2 + 1))
    have HMt : Hid (Mv b w Wt) := Lib.hid (by rw [← hWt]; exact hM6.set_ 2 _)
    have HOt : Hid (OwnT NDT w.heap.size (New w) Wt (.slice (some ⟨gb, 0, none⟩) (vl.length + 1) cap) (out ++ [n])) := Lib.hid (by rw [← hWt]; exact ownT_mv hO6 ((Mv.refl b w6).set_ 2 _) hbl (by unfold New; omega))
    have hkk := hk3
    clear hP6 hO6 hM6 HSN HP5 HM5 HI9 HR2
    cases l with
    | true =>
     rw [if_pos rfl] at hR
     unfold endP at hR
     go_upto_region 8 with fail
     clear c2 f2 hWt
     have HIt := fun w' (hb : Below Wt.heap.size Wt w') => is_any (HPt.out.bel hb) hkk e
     have HSt := fun w' (hb : Below Wt.heap.size Wt w') => stop_any (HPt.out.bel hb) hkk
     have HIe := Lib.hid (HIt Wt (Below.refl _ _))
     obtain ⟨qt, hqt⟩ : ∃ t, isK L e (k2 + 1) = t := ⟨_, rfl⟩
     rw [hqt] at HIe
     replace HSt := Lib.hid HSt
     have HQt := Lib.hid hqt
     clear HIt hqt
     cases qt with
     | true =>
      rw [if_pos HQt.out] at hR
      subst hR
      go_wp2_with fail
      refine HIe.out.mono ?_; rintro er w8 ⟨rfl, hb8⟩
      have how := HOt.out.bel hb8
      have hT8 : Tree (New w) w8 (.slice (some ⟨gb, 0, none⟩) (vl.length + 1) cap) (out ++ [n]) := how.tree.mono (fun j hj _ => by
       rcases hj with hj | hj
       · exact hj
       obtain ⟨vl, -, hr, -⟩ := how
       exact (hr.lt j hj).1)
      have HT8 := Lib.hid hT8
      have HP8 := Lib.hid (HPt.out.bel hb8)
      have HM8 := Lib.hid (HMt.out.trans (Mv.of_bel hb8))
      clear how hT8 hb8 HOt
      go_wp2_with fail
      go_ret
      exact ⟨_, HT8.out, rfl, HP8.out, HM8.out⟩
     | false =>
      rw [if_neg (by rw [HQt.out]; simp)] at hR
      subst hR
      go_wp2_with fail
      refine HIe.out.mono ?_; rintro er w8 ⟨rfl, hb8⟩
      go_wp2_with fail
      refine (HSt.out w8 hb8).mono ?_; rintro er w9 ⟨rfl, hm9⟩
      go_wp2_with fail
      exact ⟨rfl, rfl, (HMt.out.trans (Mv.of_bel hb8)).trans hm9⟩
    | false =>
     rw [if_neg (by simp)] at hR
     have HRR := Lib.hid hR
     clear hR
     go_wp2_with fail
     have hat := HPt.out.at_
     exact ⟨⟨k2 + 1, g', out ++ [n], hk3, by simp; omega, by omega, by omega, HRR, HOt, HPt, HMt⟩, by rw [hat]; omega⟩
end
end Pa
end Go.Proofs.YtmmgfifpjifjnaaGreatDoor
namespace Go.Proofs.YtmmgfifpjifjnaaGreatDoor
open Go.RowKit
namespace Pa
open Bs Sm Tr
open Lx (Mv)
section
variable {b : Nat} {L : List Pt} {tb tc : Nat} {bad : Int} {a d f : Nat} {w w' w0 : World} {S S' : Nat → Prop} {K : Nat} {x : Nd}
def PanicOk (Q : Exit → Act → World → Prop) : Prop := ∀ c (a a' : Act) (w : World), a'.defers = a.defers → Q (.panic c) a' w → Q (.panic c) a w
theorem put_defers (a : Act) (d : Option Nat) (v : Value) : (a.put d v).defers = a.defers := by cases d <;> rfl
theorem region_pk {P : Program} {Q : Exit → Act → World → Prop} {c : Code} {a : Act} {w : World} (hq : PanicOk Q) (h : PanicOk Q → c.wp P Q a w) : c.wp P Q a w := h hq
theorem OwnT.mono {T B : Nat} {v : Value} {l : List Nd} (h : OwnT T B S w v l) (hs : ∀ j, S j → j < w.heap.size → S' j) : OwnT T B S' w v l := by
 obtain ⟨vl, h1, h2, h3⟩ := h
 exact ⟨vl, h1, h2, fun x hx => ⟨(h3 x hx).1.mono (fun j hj hl => ⟨hs j hj.1 hl, hj.2⟩), (h3 x hx).2.mono (fun j hj hl => ⟨hs j hj.1 hl, hj.2⟩)⟩⟩
theorem ownT_set {T B k i : Nat} {v : Value} {l : List Nd} (h : OwnT T B S w v l) (hne : v.ownBlock ≠ some k) (hS : ¬ S k) (u : Value) : OwnT T B S (w.setCell ⟨k, i, none⟩ u) v l := by
 obtain ⟨vl, h1, h2, h3⟩ := h
 have hk : ∀ (Q : Nat → Prop), ¬ Q k → Kp Q w (w.setCell ⟨k, i, none⟩ u) := fun Q hq => kp_set i hq u
 refine ⟨vl, h1, ?_, fun x hx => ⟨(h3 x hx).1.kp (hk _ (fun hj => hS hj.1)), (h3 x hx).2.kp (hk _ (fun hj => hS hj.1))⟩⟩
 obtain ⟨e1, e2⟩ := h2
 refine ⟨e1, ?_⟩
 rcases e2 with hn | ⟨g, cap, cur, rfl, hb, hg, rest⟩
 · exact .inl hn
 exact .inr ⟨g, cap, cur, rfl, hb, (Below.heap_setCell w ⟨k, i, none⟩ u g (fun e => hne (by subst e; rfl))).trans hg, rest⟩
theorem ownT_lt {T B : Nat} {v : Value} {l : List Nd} (h : OwnT T B S w v l) : ∀ j, v.ownBlock = some j → B ≤ j ∧ j < w.heap.size := by
 obtain ⟨vl, -, hr, -⟩ := h
 exact fun j hj => hr.lt j hj
set_option maxRecDepth 100000 in
set_option maxHeartbeats 3200000 in
theorem casc_step (hL : LOk L) (hall : ∀ g, g ≤ f → PA L bad g) (hP : Pr b L tb tc bad a d w) (ha : a < L.length) (hd : d ≤ 40) (hf : 16 * (L.length - a) + 6 ≤ f + 1) :
  Calls Tryz.prog 154 #[.pointer (some ⟨b, 0, none⟩)] w (NdO b L tb tc bad d (New w) (cascP L bad (f + 1) d a) w) := by
 have hlen := hL.len
 have hbl := hP.blk.lt
 have htl := hP.lt
 have h := hall f (Nat.le_refl _)
 obtain ⟨i0, hi0, hz0, hz1, hz2⟩ := info_parts (show (Tryz.prog.info? NDT).map (fun i => (i.zero, i.size, i.bytes)) = some (some (.agg #[.int .i64 0, .string ⟨#[]⟩, .int .i64 0, .slice none 0 0, .slice none 0 0, .int .i64 0]), 6, 88) by kernel_rfl)
 have tsl : Tryz.prog.underlying 31 = some (.slice NDT) := by kernel_rfl
 have hX := alloc_bel w (.cells z6 NDT)
 have HC := Lib.hid (h.kwd (hP.bel hX) ha hd (by omega))
 have hres := (PB.all (bad := bad) hL f).kwd d a ha
 obtain ⟨R, hR⟩ : ∃ R, cascP L bad (f + 1) d a = R := ⟨_, rfl⟩
 rw [hR]
 rw [cascP] at hR
 obtain ⟨E, hE⟩ : ∃ E, kwdP L bad f d a = E := ⟨_, rfl⟩
 rw [hE] at HC hres hR
 have HR := Lib.hid hR
 have HX := Lib.hid hX
 have HALL := Lib.hid hall
 have HL := Lib.hid hL
 clear hX hE h hP hR hall hL
 go_enter Tryz.func154, Tryz.ntmps154
 go_wp2_with fail
 refine HC.out.mono ?_; intro e w1 ht
 cases E with
 | error y =>
  obtain ⟨rfl, hm⟩ := ht
  have hR := HR.out
  simp only [bind, Except.bind] at hR
  subst hR
  go_wp2_with fail
  exact ⟨rfl, rfl, (Mv.of_bel HX.out).trans hm⟩
 | ok y =>
  obtain ⟨n, s, a1⟩ := y
  have hR := HR.out
  simp only [bind, Except.bind] at hR
  replace HR := Lib.hid hR
  clear hR
  obtain ⟨v, hv, rfl, hP1, hm1⟩ := ht
  obtain ⟨ka, kc, na, nc, rfl, hT, hN⟩ := hv.form
  obtain ⟨r1, r2, -, -⟩ := hres
  simp only at r1 r2
  have hs1 := hm1.size
  simp only [World.size_alloc] at hs1
  have hM1 := (Mv.of_bel (b := b) HX.out).trans hm1
  have hZ1 : Blk NDT w.heap.size z6 w1 := (hm1.block _ (by simp) (by omega)).trans (Blk.made w)
  have hT1 := hT.mono (S' := fun j => New w j ∧ j ≠ w.heap.size ∧ j < w1.heap.size) (fun j hj hl => by unfold New at *; simp at hj; omega)
  have hN1 := hN.mono (S' := fun j => New w j ∧ j ≠ w.heap.size ∧ j < w1.heap.size) (fun j hj hl => by unfold New at *; simp at hj; omega)
  have hbbA := alloc_bel w1 (.cells #[.int .i64 n.kind, .string ⟨n.name.toArray⟩, .int .i64 n.num, .slice ka n.kids.length kc, .slice na n.names.length nc, .int .i64 n.at_] NDT)
  have hMkA := Blk.made (T := NDT) (cs := #[.int .i64 n.kind, .string ⟨n.name.toArray⟩, .int .i64 n.num, .slice ka n.kids.length kc, .slice na n.names.length nc, .int .i64 n.at_]) w1
  have hszA : (w1.alloc (.cells #[.int .i64 n.kind, .string ⟨n.name.toArray⟩, .int .i64 n.num, .slice ka n.kids.length kc, .slice na n.names.length nc, .int .i64 n.at_] NDT)).heap.size = w1.heap.size + 1 := by simp
  have hP2 := hP1.bel hbbA
  have hM2 := hM1.alloc (.cells #[.int .i64 n.kind, .string ⟨n.name.toArray⟩, .int .i64 n.num, .slice ka n.kids.length kc, .slice na n.names.length nc, .int .i64 n.at_] NDT)
  have hZ2 := hZ1.alloc (.cells #[.int .i64 n.kind, .string ⟨n.name.toArray⟩, .int .i64 n.num, .slice ka n.kids.length kc, .slice na n.names.length nc, .int .i64 n.at_] NDT)
  have hT2 := hT1.bel hbbA
  have hN2 := hN1.below hbbA
  obtain ⟨W2, halA⟩ : ∃ W, w1.alloc (.cells #[.int .i64 n.kind, .string ⟨n.name.toArray⟩, .int .i64 n.num, .slice ka n.kids.length kc, .slice na n.names.length nc, .int .i64 n.at_] NDT) = W := ⟨_, rfl⟩
  rw [halA] at hMkA hszA hP2 hM2 hZ2 hT2 hN2
  clear hbbA
  have HI := is_any hP2 r2 10
  have HSP := fun w' (hb : Below W2.heap.size W2 w') => stop_any (hP2.bel hb) r2
  obtain ⟨q, hq⟩ : ∃ t, isK L 10 a1 = t := ⟨_, rfl⟩
  have HQ := Lib.hid hq
  rw [hq] at HI
  replace HI := Lib.hid HI
  have HSP := Lib.hid HSP
  have HP2 := Lib.hid hP2
  have HM2 := Lib.hid hM2
  have HZ2 := Lib.hid hZ2
  have HT2 := Lib.hid hT2
  have HN2 := Lib.hid hN2
  have HB2 := Lib.hid hMkA
  clear hv hm1 hP1 hT hN hZ1 hM1 hT1 hN1 hP2 hM2 hZ2 hT2 hN2 hMkA hq
  unfold ndA
  go_wp2_with fail
  refine HI.out.mono ?_; rintro e w3 ⟨rfl, hb3⟩
  have hs3 := hb3.size
  have hB3 := HB2.out.below hb3 (by omega)
  have hZ3 : Blk NDT w.heap.size #[.int .i64 0, .string ⟨#[]⟩, .int .i64 0, .slice none 0 0, .slice none 0 0, .int .i64 0] w3 := HZ2.out.below hb3 (by omega)
  have e0 := hB3.c 0 _ rfl
  have e1 := hB3.c 1 _ rfl
  have e2 := hB3.c 2 _ rfl
  have e3 := hB3.c 3 _ rfl
  have e4 := hB3.c 4 _ rfl
  have e5 := hB3.c 5 _ rfl
  have hP3 := HP2.out.bel hb3
  have hM3 := HM2.out.trans (Mv.of_bel hb3)
  have hT3 := HT2.out.bel hb3
  have hN3 := HN2.out.below hb3
  cases q with
  | false =>
   have hR := HR.out
   rw [if_neg (by rw [HQ.out]; simp)] at hR
   subst hR
   have z0 := hZ3.c 0 _ rfl
   have z1 := hZ3.c 1 _ rfl
   have z2 := hZ3.c 2 _ rfl
   have z3 := hZ3.c 3 _ rfl
   have z4 := hZ3.c 4 _ rfl
   have z5 := hZ3.c 5 _ rfl
   have zf := hZ3.fz
   have HP3 := Lib.hid hP3
   have HM3 := Lib.hid hM3
   have HT3 := Lib.hid hT3
   have HN3 := Lib.hid hN3
   clear hP3 hM3 hT3 hN3 hB3 hZ3 hb3 HB2 HZ2 HT2 HN2 HM2 HP2 halA
   go_wp2_with fail
   refine bodyPost_ret (v := .agg #[.int .i64 n.kind, .string ⟨n.name.toArray⟩, .int .i64 n.num, .slice ka n.kids.length kc, .slice na n.names.length nc, .int .i64 n.at_]) (by simp [results, Tryz.results154, go_sem, ndA, z0, z1, z2, z3, z4, z5]) rfl ?_
   refine ⟨_, ⟨_, _, rfl, (HT3.out.kp (kp_set6 ?_)).mono (fun j hj _ => hj.1), (HN3.out.kp (kp_set6 ?_)).mono (fun j hj _ => hj.1)⟩, rfl, pr_far6 HP3.out (by omega) (by omega), mv_set6 HM3.out (Nat.le_refl _)⟩
   all_goals simp
  | true =>
   have h10 := (HL.out.pl a1 r2).1
   rw [HQ.out] at h10
   cases h10
end
end Pa
end Go.Proofs.YtmmgfifpjifjnaaGreatDoor
