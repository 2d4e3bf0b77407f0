/- Package parse, the walk, 5: statement, keyworded (wip/gen/gen_paw5.py prints this). · Package parse, the walk, 6: keyworded, binary (wip/gen/gen_paw6.py prints this). · Package parse, the walk, 7: binary (wip/gen/gen_paw7.py prints this). · Package parse, the walk, 8: message (wip/gen/gen_paw8.py prints this). -/
import Derived.Test.YtbdgoimbddlcoaaGreatDoorPaX1
set_option linter.unusedVariables false
namespace Go.Proofs.YtbdgoimbddlcoaaGreatDoor
open Go.RowKit
namespace Pa
open Bs Sm Tr
open Lx (Mv)
section
variable {b : Nat} {L : List Pt} {tb tc : Nat} {bad : Int} {a d f : Nat} {w w' w0 : World} {S S' : Nat → Prop} {K : Nat} {x : Nd}
set_option maxRecDepth 100000 in
set_option maxHeartbeats 3200000 in
theorem stmt_step (hL : LOk L) (h : PA L bad f) (hP : Pr b L tb tc bad a d w) (ha : a < L.length) (hd : d ≤ 40) (hf : 16 * (L.length - a) + 8 ≤ f + 1) :
  Calls Tryz.prog 96 #[.pointer (some ⟨b, 0, none⟩)] w (NbO b L tb tc bad d (New w) (stmtP L bad (f + 1) d a) w) := by
 have hlen := hL.len
 have hbl := hP.blk.lt
 have htl := hP.lt
 have hX := alloc_bel w (.cells z6 NDT)
 have HI := Lib.hid (is_any (hP.bel hX) ha 8)
 rw [stmtP]
 obtain ⟨q, hq⟩ : ∃ t, isK L 8 a = t := ⟨_, rfl⟩
 rw [hq] at HI
 cases q with
 | false =>
  rw [if_neg (by rw [hq]; simp)]
  have HC := fun w' (hb : Below w.heap.size w w') => h.expr (hP.bel hb) ha hd (by omega)
  obtain ⟨E, hE⟩ : ∃ E, exprP L bad f d a = E := ⟨_, rfl⟩
  rw [hE] at HC ⊢
  replace HC := Lib.hid HC
  have HX := Lib.hid hX
  clear hX hE hq hL h hP
  go_enter Tryz.func96, Tryz.ntmps96
  go_wp2_with fail
  refine HI.out.mono ?_; rintro e w1 ⟨rfl, hb1⟩
  have hw1 := HX.out.trans (hb1.mono (by simp))
  have hs1 := hb1.size
  simp only [World.size_alloc] at hs1
  have hZ1 : Blk NDT w.heap.size z6 w1 := (Blk.made w).below hb1 (by simp)
  go_wp2_with fail
  refine (HC.out w1 hw1).mono ?_; intro e w2 ht
  cases E with
  | error x =>
   obtain ⟨rfl, hm⟩ := ht
   go_wp2_with fail
   exact ⟨rfl, rfl, (Mv.of_bel hw1).trans hm⟩
  | ok y =>
   obtain ⟨n, a1⟩ := y
   obtain ⟨v, hv, rfl, hP2, hm2⟩ := ht
   obtain ⟨ka, kc, na, nc, rfl, hT, hN⟩ := hv.form
   have hZ2 : Blk NDT w.heap.size z6 w2 := (hm2.block _ (by omega) (by omega)).trans hZ1
   have hM2 := (Mv.of_bel (b := b) hw1).trans hm2
   have hs2 := hm2.size
   unfold z6 at hZ2
   have z0 := hZ2.c 0 _ rfl
   have z1 := hZ2.c 1 _ rfl
   have z2 := hZ2.c 2 _ rfl
   have z3 := hZ2.c 3 _ rfl
   have z4 := hZ2.c 4 _ rfl
   have z5 := hZ2.c 5 _ rfl
   have zf := hZ2.fz
   have HP2 := Lib.hid hP2
   have HT := Lib.hid hT
   have HN := Lib.hid hN
   have HM2 := Lib.hid hM2
   clear hv hm2 hP2 hT hN hM2 hZ2 hZ1 hb1
   unfold ndA
   go_wp2_with fail
   refine bodyPost_ret (v := .tuple #[.agg (ndA n ka kc na nc), .bool false]) (by simp [results, Tryz.results96, go_sem, ndA, z0, z1, z2, z3, z4, z5]) rfl ?_
   refine ⟨_, ⟨_, _, rfl, (HT.out.kp (kp_set6 ?_)).mono (fun j hj _ => ?_), (HN.out.kp (kp_set6 ?_)).mono (fun j hj _ => ?_)⟩, rfl, pr_far6 HP2.out (by omega) (by omega), mv_set6 HM2.out (Nat.le_refl _)⟩
   all_goals unfold New at *
   all_goals omega
 | true =>
  rw [if_pos hq]
  have hk1 := hL.next hq (by omega) ha
  have HNX := fun w' (hb : Below w.heap.size w w') => next_any (hP.bel hb) ha hlen
  have HC := fun (w' : World) (hp : Pr b L tb tc bad (a + 1) d w') => h.expr hp hk1 hd (by omega)
  obtain ⟨E, hE⟩ : ∃ E, exprP L bad f d (a + 1) = E := ⟨_, rfl⟩
  obtain ⟨t, ht⟩ : ∃ t, now L a = t := ⟨_, rfl⟩
  rw [hE] at HC ⊢
  rw [ht] at HNX ⊢
  replace HC := Lib.hid HC
  replace HNX := Lib.hid HNX
  have HX := Lib.hid hX
  have F3 := fld3
  clear hX hE hq hL h hP ht
  unfold ptV at HNX
  go_enter Tryz.func96, Tryz.ntmps96
  go_wp2_with fail
  refine HI.out.mono ?_; rintro e w1 ⟨rfl, hb1⟩
  have hw1 := HX.out.trans (hb1.mono (by simp))
  have hs1 := hb1.size
  simp only [World.size_alloc] at hs1
  have hZ1 : Blk NDT w.heap.size z6 w1 := (Blk.made w).below hb1 (by simp)
  go_wp2_with fail
  refine (HNX.out w1 hw1).mono ?_; rintro e w2 ⟨rfl, hP2, hm2⟩
  have hZ2 : Blk NDT w.heap.size z6 w2 := (hm2.block _ (by omega) (by omega)).trans hZ1
  have hM2 := (Mv.of_bel (b := b) hw1).trans hm2
  have hs2 := hm2.size
  clear hm2 hZ1 hb1
  go_wp2_with fail
  refine (HC.out w2 hP2).mono ?_; intro e w3 ht
  cases E with
  | error x =>
   obtain ⟨rfl, hm⟩ := ht
   go_wp2_with fail
   exact ⟨rfl, rfl, hM2.trans hm⟩
  | ok y =>
   obtain ⟨n, a1⟩ := y
   obtain ⟨v, hv, rfl, hP3, hm3⟩ := ht
   obtain ⟨ka, kc, na, nc, rfl, hT, hN⟩ := hv.form
   have hZ3 : Blk NDT w.heap.size z6 w3 := (hm3.block _ (by omega) (by omega)).trans hZ2
   have hM3 := hM2.trans hm3
   have hs3 := hm3.size
   unfold z6 at hZ3
   have z0 := hZ3.c 0 _ rfl
   have z1 := hZ3.c 1 _ rfl
   have z2 := hZ3.c 2 _ rfl
   have z3 := hZ3.c 3 _ rfl
   have z4 := hZ3.c 4 _ rfl
   have z5 := hZ3.c 5 _ rfl
   have zf := hZ3.fz
   have hZ4 : Blk NDT w.heap.size #[.int .i64 0, .string ⟨#[]⟩, .int .i64 0, .slice none 0 0, .slice none 0 0, .int .i64 0] (w3.alloc (.cells (ndA n ka kc na nc) NDT)) := hZ3.alloc _
   have hbb := alloc_bel w3 (.cells (ndA n ka kc na nc) NDT)
   have hT4 := tree_one (S := fun j => New w3 j) (Blk.made (T := NDT) (cs := ndA n ka kc na nc) w3) (Nat.le_refl _)
   have hP4 := hP3.bel hbb
   have hM4 := hM3.alloc (.cells (ndA n ka kc na nc) NDT)
   have hT5 := tree_one (S := fun j => New w2 j) (Blk.made (T := NDT) (cs := ndA n ka kc na nc) w3) (by unfold New; omega) (hT.bel hbb) (hN.below hbb)
   unfold ndA at hZ4 hT5 hP4 hM4 ⊢
   obtain ⟨W4, hal⟩ : ∃ W, w3.alloc (.cells #[.int .i64 n.kind, .string ⟨n.name.toArray⟩, .int .i64 n.num, .slice ka n.kids.length kc, .slice na n.names.length nc, .int .i64 n.at_] NDT) = W := ⟨_, rfl⟩
   rw [hal] at hZ4 hT5 hP4 hM4
   clear hT4 hbb z0 z1 z2 z3 z4 z5 zf
   have z0 := hZ4.c 0 _ rfl
   have z1 := hZ4.c 1 _ rfl
   have z2 := hZ4.c 2 _ rfl
   have z3 := hZ4.c 3 _ rfl
   have z4 := hZ4.c 4 _ rfl
   have z5 := hZ4.c 5 _ rfl
   have zf := hZ4.fz
   have HP4 := Lib.hid hP4
   have HM4 := Lib.hid hM4
   have HT5 := Lib.hid hT5
   clear hv hm3 hP3 hT hN hM3 hZ3 hZ2 hM2 hP2 hZ4 hP4 hM4 hT5
   go_wp2_with fail
   refine bodyPost_ret (v := .tuple #[.agg #[.int .i64 10, .string ⟨#[]⟩, .int .i64 0, .slice (some ⟨w3.heap.size, 0, none⟩) 1 1, .slice none 0 0, .int .i64 t.at_], .bool true]) (by simp [results, Tryz.results96, go_sem, ndA, z0, z1, z2, z3, z4, z5]) rfl ?_
   refine ⟨_, ⟨_, _, rfl, (HT5.out.kp (kp_set6 ?_)).mono (fun j hj _ => ?_), rd_none _ _⟩, rfl, pr_far6 HP4.out (by omega) (by omega), mv_set6 HM4.out (Nat.le_refl _)⟩
   all_goals unfold New at *
   all_goals omega
end
end Pa
end Go.Proofs.YtbdgoimbddlcoaaGreatDoor
namespace Go.Proofs.YtbdgoimbddlcoaaGreatDoor
open Go.RowKit
namespace Pa
open Bs Sm Tr
open Lx (Mv)
section
variable {b : Nat} {L : List Pt} {tb tc : Nat} {bad : Int} {a d f : Nat} {w w' w0 : World} {S S' : Nat → Prop} {K : Nat} {x : Nd}
theorem tree_two {T g : Nat} {x y : Nd} {ka na la ma : Option Addr} {kc nc lc mc : Nat} (h : Blk T g (ndA x ka kc na nc ++ ndA y la lc ma mc) w) (hS : S g) (hk : Tree S w (.slice ka x.kids.length kc) x.kids) (hn : Rd S strV w (.slice na x.names.length nc) x.names)
  (hk2 : Tree S w (.slice la y.kids.length lc) y.kids) (hn2 : Rd S strV w (.slice ma y.names.length mc) y.names) : Tree S w (.slice (some ⟨g, 0, none⟩) 2 2) [x, y] :=
 tree_lit (T := T) [(x, .slice ka x.kids.length kc, .slice na x.names.length nc), (y, .slice la y.kids.length lc, .slice ma y.names.length mc)] h hS (by simp; unfold maxLen; omega)
  (fun z hz => by rcases List.mem_cons.1 hz with rfl | hz; exact hk; obtain rfl := List.mem_singleton.1 hz; exact hk2) (fun z hz => by rcases List.mem_cons.1 hz with rfl | hz; exact hn; obtain rfl := List.mem_singleton.1 hz; exact hn2)
set_option maxRecDepth 100000 in
set_option maxHeartbeats 3200000 in
theorem kwd_step (hL : LOk L) (h : PA L bad f) (hP : Pr b L tb tc bad a d w) (ha : a < L.length) (hd : d ≤ 40) (hf : 16 * (L.length - a) + 5 ≤ f + 1) :
  Calls Tryz.prog 196 #[.pointer (some ⟨b, 0, none⟩)] w (NbO b L tb tc bad d (New w) (kwdP L bad (f + 1) d a) w) := by
 have hlen := hL.len
 have hbl := hP.blk.lt
 have htl := hP.lt
 have hX := alloc_bel w (.cells z6 NDT)
 have HC := Lib.hid (h.bin (hP.bel hX) ha hd (by omega))
 have hres := (PB.all (bad := bad) hL f).bin d a ha
 obtain ⟨R, hR⟩ : ∃ R, kwdP L bad (f + 1) d a = R := ⟨_, rfl⟩
 rw [hR]
 rw [kwdP] at hR
 obtain ⟨E, hE⟩ : ∃ E, binP L bad f d a = E := ⟨_, rfl⟩
 rw [hE] at HC hres hR
 have HR := Lib.hid hR
 clear hR
 have HX := Lib.hid hX
 have HH := Lib.hid h
 clear hX hE h hP
 go_enter Tryz.func196, Tryz.ntmps196
 go_wp2_with fail
 refine HC.out.mono ?_; intro e w1 ht
 cases E with
 | error x =>
  obtain ⟨rfl, hm⟩ := ht
  have hR := HR.out
  simp only [bind, Except.bind] at hR
  subst hR
  go_wp2_with fail
  exact ⟨rfl, rfl, (Mv.of_bel HX.out).trans hm⟩
 | ok y =>
  obtain ⟨n, s, a1⟩ := y
  have hR := HR.out
  simp only [bind, Except.bind] at hR
  replace HR := Lib.hid hR
  clear hR
  obtain ⟨v, hv, rfl, hP1, hm1⟩ := ht
  obtain ⟨ka, kc, na, nc, rfl, hT, hN⟩ := hv.form
  obtain ⟨r1, r2, -, -⟩ := hres
  simp only at r1 r2
  have hs1 := hm1.size
  simp only [World.size_alloc] at hs1
  have hM1 := (Mv.of_bel (b := b) HX.out).trans hm1
  have hZ1 : Blk NDT w.heap.size z6 w1 := (hm1.block _ (by simp) (by omega)).trans (Blk.made w)
  have hbb := alloc_bel w1 (.cells (ndA n ka kc na nc) NDT)
  have hB2 := Blk.made (T := NDT) (cs := ndA n ka kc na nc) w1
  have hP2 := hP1.bel hbb
  have hM2 := hM1.alloc (.cells (ndA n ka kc na nc) NDT)
  have hZ2 := hZ1.alloc (.cells (ndA n ka kc na nc) NDT)
  have hs2 : (w1.alloc (.cells (ndA n ka kc na nc) NDT)).heap.size = w1.heap.size + 1 := by simp
  have hT2 := (hT.mono (S' := fun j => New w j ∧ j ≠ w.heap.size ∧ j ≠ w1.heap.size) (fun j hj hl => by unfold New at *; simp at hj; omega)).bel hbb
  have hN2 := (hN.mono (S' := fun j => New w j ∧ j ≠ w.heap.size ∧ j ≠ w1.heap.size) (fun j hj hl => by unfold New at *; simp at hj; omega)).below hbb
  unfold ndA at hB2 hP2 hM2 hZ2 hT2 hN2 hs2
  unfold z6 at hZ2
  unfold ndA
  obtain ⟨W2, hal⟩ : ∃ W, w1.alloc (.cells #[.int .i64 n.kind, .string ⟨n.name.toArray⟩, .int .i64 n.num, .slice ka n.kids.length kc, .slice na n.names.length nc, .int .i64 n.at_] NDT) = W := ⟨_, rfl⟩
  rw [hal] at hB2 hP2 hM2 hZ2 hT2 hN2 hs2
  have HI := is_any hP2 r2 2
  have HP3 := fun w' (hb : Below W2.heap.size W2 w') => hP2.bel hb
  obtain ⟨q, hq⟩ : ∃ t, isK L 2 a1 = t := ⟨_, rfl⟩
  rw [hq] at HI
  replace HI := Lib.hid HI
  have HP3 := Lib.hid HP3
  have HM2 := Lib.hid hM2
  have HZ2 := Lib.hid hZ2
  have HB2 := Lib.hid hB2
  have HT2 := Lib.hid hT2
  have HN2 := Lib.hid hN2
  clear hv hm1 hP1 hT hN hZ1 hM1 hbb hB2 hP2 hM2 hZ2 hT2 hN2
  go_wp2_with fail
  refine HI.out.mono ?_; rintro e w3 ⟨rfl, hb3⟩
  have hs3 := hb3.size
  have hB3 := HB2.out.below hb3 (by omega)
  have hZ3 := HZ2.out.below hb3 (by omega)
  have e0 := hB3.c 0 _ rfl
  have e1 := hB3.c 1 _ rfl
  have e2 := hB3.c 2 _ rfl
  have e3 := hB3.c 3 _ rfl
  have e4 := hB3.c 4 _ rfl
  have e5 := hB3.c 5 _ rfl
  have z0 := hZ3.c 0 _ rfl
  have z1 := hZ3.c 1 _ rfl
  have z2 := hZ3.c 2 _ rfl
  have z3 := hZ3.c 3 _ rfl
  have z4 := hZ3.c 4 _ rfl
  have z5 := hZ3.c 5 _ rfl
  have zf := hZ3.fz
  have hP3 := HP3.out w3 hb3
  have hM3 := HM2.out.trans (Mv.of_bel hb3)
  have hT3 := HT2.out.bel hb3
  have hN3 := HN2.out.below hb3
  cases q with
  | false =>
   have hR := HR.out
   rw [if_neg (by rw [hq]; simp)] at hR
   subst hR
   have HP3 := Lib.hid hP3
   have HM3 := Lib.hid hM3
   have HT3 := Lib.hid hT3
   have HN3 := Lib.hid hN3
   clear hP3 hM3 hT3 hN3 hB3 hZ3 hb3 HB2 HZ2 HT2 HN2 HM2 hq HH
   go_wp2_with fail
   refine bodyPost_ret (v := .tuple #[.agg #[.int .i64 n.kind, .string ⟨n.name.toArray⟩, .int .i64 n.num, .slice ka n.kids.length kc, .slice na n.names.length nc, .int .i64 n.at_], .bool s]) (by simp [results, Tryz.results196, go_sem, ndA, z0, z1, z2, z3, z4, z5]) rfl ?_
   refine ⟨_, ⟨_, _, rfl, (HT3.out.kp (kp_set6 ?_)).mono (fun j hj _ => hj.1), (HN3.out.kp (kp_set6 ?_)).mono (fun j hj _ => hj.1)⟩, rfl, pr_far6 HP3.out (by omega) (by omega), mv_set6 HM3.out (Nat.le_refl _)⟩
   all_goals simp
  | true =>
   have hR := HR.out
   rw [if_pos hq] at hR
   have HC2 := HH.out.kws hP3 r2 hd (⟨_, _, rfl, hT3, hN3⟩ : NdAt (fun j => New w j ∧ j ≠ w.heap.size ∧ j ≠ w1.heap.size) w3 _ n) (by unfold New; omega) (by omega)
   obtain ⟨E2, hE2⟩ : ∃ E, kwsP L bad f d a1 (now L a1) [] [n] = E := ⟨_, rfl⟩
   rw [hE2] at HC2 hR
   replace HR := Lib.hid hR
   clear hR
   unfold ndV at HC2
   have HC2 := Lib.hid HC2
   have HM3 := Lib.hid hM3
   have HZ3 := Lib.hid hZ3
   clear hP3 hM3 hT3 hN3 hB3 hZ3 hb3 HB2 HZ2 HT2 HN2 HM2 hq HH hE2 z0 z1 z2 z3 z4 z5 zf
   go_wp2_with fail
   refine HC2.out.mono ?_; intro e w4 ht
   cases E2 with
   | error x =>
    obtain ⟨rfl, hm⟩ := ht
    have hR := HR.out
    simp only [bind, Except.bind] at hR
    subst hR
    go_wp2_with fail
    exact ⟨rfl, rfl, HM3.out.trans hm⟩
   | ok y =>
    obtain ⟨m, a2⟩ := y
    have hR := HR.out
    simp only [bind, Except.bind] at hR
    subst hR
    obtain ⟨v, hv, rfl, hP4, hm4⟩ := ht
    obtain ⟨la, lc, ma, mc, rfl, hT4, hN4⟩ := hv.form
    have hZ4 := (hm4.block _ (by omega) (by omega)).trans HZ3.out
    have hM4 := HM3.out.trans hm4
    have hs4 := hm4.size
    have hZ4 : Blk NDT w.heap.size #[.int .i64 0, .string ⟨#[]⟩, .int .i64 0, .slice none 0 0, .slice none 0 0, .int .i64 0] w4 := hZ4
    have z0 := hZ4.c 0 _ rfl
    have z1 := hZ4.c 1 _ rfl
    have z2 := hZ4.c 2 _ rfl
    have z3 := hZ4.c 3 _ rfl
    have z4 := hZ4.c 4 _ rfl
    have z5 := hZ4.c 5 _ rfl
    have zf := hZ4.fz
    have HP4 := Lib.hid hP4
    have HM4 := Lib.hid hM4
    have HT4 := Lib.hid hT4
    have HN4 := Lib.hid hN4
    clear hv hP4 hM4 hT4 hN4 hZ4 hm4 e0 e1 e2 e3 e4 e5
    unfold ndA
    go_wp2_with fail
    refine bodyPost_ret (v := .tuple #[.agg #[.int .i64 m.kind, .string ⟨m.name.toArray⟩, .int .i64 m.num, .slice la m.kids.length lc, .slice ma m.names.length mc, .int .i64 m.at_], .bool true]) (by simp [results, Tryz.results196, go_sem, ndA, z0, z1, z2, z3, z4, z5]) rfl ?_
    refine ⟨_, ⟨_, _, rfl, (HT4.out.kp (kp_set6 ?_)).mono (fun j hj _ => ?_), (HN4.out.kp (kp_set6 ?_)).mono (fun j hj _ => ?_)⟩, rfl, pr_far6 HP4.out (by omega) (by omega), mv_set6 HM4.out (Nat.le_refl _)⟩
    all_goals (simp [New] at *)
    all_goals omega
end
end Pa
end Go.Proofs.YtbdgoimbddlcoaaGreatDoor
namespace Go.Proofs.YtbdgoimbddlcoaaGreatDoor
open Go.RowKit
namespace Pa
open Bs Sm Tr
open Lx (Mv)
section
variable {b : Nat} {L : List Pt} {tb tc : Nat} {bad : Int} {a d f : Nat} {w w' w0 : World} {S S' : Nat → Prop} {K : Nat} {x : Nd}
theorem bin_round (hL : LOk L) {g k : Nat} {n : Nd} {s : Bool} {R : PE (Nd × Bool × Nat)} (hk : k < L.length) (hg : 16 * (L.length - k) + 1 ≤ g) (h : binLoop L bad g d n s k = R) :
  (isK L 6 k = false → R = .ok (n, s, k)) ∧ (isK L 6 k = true → k + 1 < L.length ∧ ∃ g', g = g' + 1 ∧ (unP L bad g' d (k + 1) >>= fun r => binLoop L bad g' d (sendN (now L k) (now L k).word [n, r.1]) true r.2.2) = R) := by
 cases g with
 | zero => omega
 | succ g =>
  rw [binLoop] at h
  refine ⟨fun hq => ?_, fun hq => ?_⟩
  · rw [if_neg (by rw [hq]; simp)] at h; exact h.symm
  · rw [if_pos hq] at h
    exact ⟨hL.next hq (by omega) hk, g, rfl, h⟩
set_option maxRecDepth 100000 in
set_option maxHeartbeats 3200000 in
theorem bin_step (hL : LOk L) (hall : ∀ g, g ≤ f → PA L bad g) (hP : Pr b L tb tc bad a d w) (ha : a < L.length) (hd : d ≤ 40) (hf : 16 * (L.length - a) + 4 ≤ f + 1) :
  Calls Tryz.prog 216 #[.pointer (some ⟨b, 0, none⟩)] w (NbO b L tb tc bad d (New w) (binP L bad (f + 1) d a) w) := by
 have hlen := hL.len
 have hbl := hP.blk.lt
 have htl := hP.lt
 have h := hall f (Nat.le_refl _)
 have hX := alloc_bel w (.cells z6 NDT)
 have HC := Lib.hid (h.un (hP.bel hX) ha hd (by omega))
 have hres := (PB.all (bad := bad) hL f).un d a ha
 obtain ⟨R, hR⟩ : ∃ R, binP L bad (f + 1) d a = R := ⟨_, rfl⟩
 rw [hR]
 rw [binP] at hR
 obtain ⟨E, hE⟩ : ∃ E, unP L bad f d a = E := ⟨_, rfl⟩
 rw [hE] at HC hres hR
 have HR := Lib.hid hR
 have HX := Lib.hid hX
 have HALL := Lib.hid hall
 have HL := Lib.hid hL
 clear hX hE h hP hR hall hL
 go_enter Tryz.func216, Tryz.ntmps216
 go_wp2_with fail
 refine HC.out.mono ?_; intro e w1 ht
 cases E with
 | error x =>
  obtain ⟨rfl, hm⟩ := ht
  have hR := HR.out
  simp only [bind, Except.bind] at hR
  subst hR
  go_wp2_with fail
  exact ⟨rfl, rfl, (Mv.of_bel HX.out).trans hm⟩
 | ok y =>
  obtain ⟨n, s, a1⟩ := y
  have hR := HR.out
  simp only [bind, Except.bind] at hR
  replace HR := Lib.hid hR
  clear hR
  obtain ⟨v, hv, rfl, hP1, hm1⟩ := ht
  obtain ⟨ka, kc, na, nc, rfl, hT, hN⟩ := hv.form
  obtain ⟨r1, r2, -, -⟩ := hres
  simp only at r1 r2
  have hs1 := hm1.size
  simp only [World.size_alloc] at hs1
  have hM1 := (Mv.of_bel (b := b) HX.out).trans hm1
  have hZ1 : Blk NDT w.heap.size z6 w1 := (hm1.block _ (by simp) (by omega)).trans (Blk.made w)
  have hT1 := hT.mono (S' := fun j => New w j ∧ j ≠ w.heap.size ∧ j ≠ w1.heap.size) (fun j hj hl => by unfold New at *; simp at hj; omega)
  have hN1 := hN.mono (S' := fun j => New w j ∧ j ≠ w.heap.size ∧ j ≠ w1.heap.size) (fun j hj hl => by unfold New at *; simp at hj; omega)
  have hbbA := alloc_bel w1 (.cells #[.int .i64 n.kind, .string ⟨n.name.toArray⟩, .int .i64 n.num, .slice ka n.kids.length kc, .slice na n.names.length nc, .int .i64 n.at_] NDT)
  have hMkA := Blk.made (T := NDT) (cs := #[.int .i64 n.kind, .string ⟨n.name.toArray⟩, .int .i64 n.num, .slice ka n.kids.length kc, .slice na n.names.length nc, .int .i64 n.at_]) w1
  have hszA : (w1.alloc (.cells #[.int .i64 n.kind, .string ⟨n.name.toArray⟩, .int .i64 n.num, .slice ka n.kids.length kc, .slice na n.names.length nc, .int .i64 n.at_] NDT)).heap.size = w1.heap.size + 1 := by simp
  have hP2 := hP1.bel hbbA
  have hM2 := hM1.alloc (.cells #[.int .i64 n.kind, .string ⟨n.name.toArray⟩, .int .i64 n.num, .slice ka n.kids.length kc, .slice na n.names.length nc, .int .i64 n.at_] NDT)
  have hZ2 := hZ1.alloc (.cells #[.int .i64 n.kind, .string ⟨n.name.toArray⟩, .int .i64 n.num, .slice ka n.kids.length kc, .slice na n.names.length nc, .int .i64 n.at_] NDT)
  have hT2 := hT1.bel hbbA
  have hN2 := hN1.below hbbA
  obtain ⟨W2, halA⟩ : ∃ W, w1.alloc (.cells #[.int .i64 n.kind, .string ⟨n.name.toArray⟩, .int .i64 n.num, .slice ka n.kids.length kc, .slice na n.names.length nc, .int .i64 n.at_] NDT) = W := ⟨_, rfl⟩
  rw [halA] at hMkA hszA hP2 hM2 hZ2 hT2 hN2
  clear hbbA
  have HP2 := Lib.hid hP2
  have HM2 := Lib.hid hM2
  have HZ2 := Lib.hid hZ2
  have HX2 : Hid (NBlk (fun j => New w j ∧ j ≠ w.heap.size ∧ j ≠ w1.heap.size) w1.heap.size n W2) := Lib.hid ⟨ka, kc, na, nc, hMkA, hT2, hN2⟩
  clear hv hm1 hP1 hT hN hZ1 hM1 hT1 hN1 hP2 hM2 hZ2 hT2 hN2 hMkA
  unfold ndA
  go_wp2_with fail
  go_loopw [5] (fun s wr => ∃ (k g : Nat) (x : Nd) (sb : Bool), s = .bool sb ∧ k < L.length ∧ 16 * (L.length - k) + 1 ≤ g ∧ g ≤ f ∧ Hid (binLoop L bad g d x sb k = R) ∧ Hid (NBlk (fun j => New w j ∧ j ≠ w.heap.size ∧ j ≠ w1.heap.size) w1.heap.size x wr) ∧ Hid (Blk NDT w.heap.size z6 wr) ∧ Hid (Pr b L tb tc bad k d wr) ∧ Hid (Mv b w wr) ∧ w1.heap.size < wr.heap.size) (fun _ wr => L.length - atP b wr)
  case atStart => exact ⟨a1, f, n, s, rfl, r2, by omega, Nat.le_refl _, HR, HX2, HZ2, HP2, HM2, by omega⟩
  case round =>
   obtain ⟨k, g, x, sb, rfl, hk, hg, hgf, HEk, HX4, HZ, HPk, HMv, hlt⟩ := hrel
   have hatk := HPk.out.at_
   have hrd := bin_round HL.out hk hg HEk.out
   have HI := Lib.hid (is_any HPk.out hk 6)
   obtain ⟨q, hq⟩ : ∃ t, isK L 6 k = t := ⟨_, rfl⟩
   obtain ⟨t, ht⟩ : ∃ t, now L k = t := ⟨_, rfl⟩
   rw [hq] at HI hrd
   rw [ht] at hrd
   have HNX := fun w' (hb : Below wr.heap.size wr w') => next_any (HPk.out.bel hb) hk hlen
   rw [ht] at HNX
   replace HNX := Lib.hid HNX
   have HRD := Lib.hid hrd
   have hms := HMv.out.size
   clear hrd hq ht HEk halA HX2 HZ2 HP2 HM2 HR
   go_wp2_with fail
   refine HI.out.mono ?_; rintro e w2 ⟨rfl, hb2⟩
   have hs2 := hb2.size
   cases q with
   | false =>
    have hEE := HRD.out.1 (by first | rfl | trivial)
    obtain ⟨xa, xc, ya, yc, hB4, hT4, hN4⟩ := HX4.out.bel hb2
    have hZ2 := HZ.out.below hb2 (by omega)
    have hP2 := HPk.out.bel hb2
    have hM2 := HMv.out.trans (Mv.of_bel hb2)
    unfold ndA at hB4
    unfold z6 at hZ2
    have e0 := hB4.c 0 _ rfl
    have e1 := hB4.c 1 _ rfl
    have e2 := hB4.c 2 _ rfl
    have e3 := hB4.c 3 _ rfl
    have e4 := hB4.c 4 _ rfl
    have e5 := hB4.c 5 _ rfl
    have z0 := hZ2.c 0 _ rfl
    have z1 := hZ2.c 1 _ rfl
    have z2 := hZ2.c 2 _ rfl
    have z3 := hZ2.c 3 _ rfl
    have z4 := hZ2.c 4 _ rfl
    have z5 := hZ2.c 5 _ rfl
    have zf := hZ2.fz
    have HP2 := Lib.hid hP2
    have HM2 := Lib.hid hM2
    have HT4 := Lib.hid hT4
    have HN4 := Lib.hid hN4
    clear HRD HX4 HZ HPk HMv hB4 hZ2 hP2 hM2 hT4 hN4
    subst hEE
    go_wp2_with fail
    refine bodyPost_ret (v := .tuple #[.agg #[.int .i64 x.kind, .string ⟨x.name.toArray⟩, .int .i64 x.num, .slice xa x.kids.length xc, .slice ya x.names.length yc, .int .i64 x.at_], .bool sb]) (by simp [results, Tryz.results216, go_sem, ndA, z0, z1, z2, z3, z4, z5]) rfl ?_
    refine ⟨_, ⟨_, _, rfl, (HT4.out.kp (kp_set6 ?_)).mono (fun j hj _ => hj.1), (HN4.out.kp (kp_set6 ?_)).mono (fun j hj _ => hj.1)⟩, rfl, pr_far6 HP2.out (by omega) (by omega), mv_set6 HM2.out (Nat.le_refl _)⟩
    all_goals simp
   | true =>
    obtain ⟨hk1, g', rfl, hRR⟩ := HRD.out.2 (by first | rfl | trivial)
    have hg2 : 16 * (L.length - (k + 1)) + 3 ≤ g' := by omega
    have HU := fun (w' : World) (hp : Pr b L tb tc bad (k + 1) d w') => (HALL.out g' (by omega)).un hp hk1 hd hg2
    have hres := (PB.all (bad := bad) HL.out g').un d (k + 1) hk1
    obtain ⟨E, hE⟩ : ∃ E, unP L bad g' d (k + 1) = E := ⟨_, rfl⟩
    rw [hE] at HU hRR hres
    replace HU := Lib.hid HU
    have HRR := Lib.hid hRR
    clear HRD hE hRR
    go_wp2_with fail
    refine (HNX.out w2 hb2).mono ?_; rintro e w3 ⟨rfl, hP3, hm3⟩
    have hX3 := (HX4.out.bel hb2).mv hm3 (by omega) (by unfold New; omega)
    have hZ3 : Blk NDT w.heap.size z6 w3 := (hm3.block _ (by omega) (by omega)).trans (HZ.out.below hb2 (by omega))
    have hM3 := (HMv.out.trans (Mv.of_bel hb2)).trans hm3
    have hs3 := hm3.size
    have hbbB := alloc_bel w3 (.cells #[.int .i64 t.kind, .string ⟨t.word.toArray⟩, .int .i64 t.num, .int .i64 t.at_] KT)
    have hMkB := Blk.made (T := KT) (cs := #[.int .i64 t.kind, .string ⟨t.word.toArray⟩, .int .i64 t.num, .int .i64 t.at_]) w3
    have hszB : (w3.alloc (.cells #[.int .i64 t.kind, .string ⟨t.word.toArray⟩, .int .i64 t.num, .int .i64 t.at_] KT)).heap.size = w3.heap.size + 1 := by simp
    have hP4 := hP3.bel hbbB
    have hM4 := hM3.alloc (.cells #[.int .i64 t.kind, .string ⟨t.word.toArray⟩, .int .i64 t.num, .int .i64 t.at_] KT)
    have hZ4 := hZ3.alloc (.cells #[.int .i64 t.kind, .string ⟨t.word.toArray⟩, .int .i64 t.num, .int .i64 t.at_] KT)
    have hX4 := hX3.bel hbbB
    obtain ⟨W4, halB⟩ : ∃ W, w3.alloc (.cells #[.int .i64 t.kind, .string ⟨t.word.toArray⟩, .int .i64 t.num, .int .i64 t.at_] KT) = W := ⟨_, rfl⟩
    rw [halB] at hMkB hszB hP4 hM4 hZ4 hX4
    clear hbbB
    have HP4 := Lib.hid hP4
    have HM4 := Lib.hid hM4
    have HZ4 := Lib.hid hZ4
    have HX5 := Lib.hid hX4
    have HK4 := Lib.hid hMkB
    clear HX4 HZ HPk HMv hP3 hm3 hX3 hZ3 hM3 hP4 hM4 hZ4 hX4 hMkB
    unfold ptV
    go_wp2_with fail
    refine (HU.out W4 HP4.out).mono ?_; intro e w5 ht
    cases E with
    | error y =>
     obtain ⟨rfl, hm⟩ := ht
     have hR := HRR.out
     simp only [bind, Except.bind] at hR
     subst hR
     go_wp2_with fail
     exact ⟨rfl, rfl, HM4.out.trans hm⟩
    | ok y =>
     obtain ⟨y, s2, a2⟩ := y
     have hR := HRR.out
     simp only [bind, Except.bind] at hR
     replace HRR := Lib.hid hR
     clear hR
     obtain ⟨v, hv, rfl, hP5, hm5⟩ := ht
     obtain ⟨la, lc, ma, mc, rfl, hTy, hNy⟩ := hv.form
     obtain ⟨q1, q2, -, -⟩ := hres
     simp only at q1 q2
     have hs5 := hm5.size
     have hX5 := HX5.out.mv hm5 (by omega) (by unfold New; omega)
     have hZ5 : Blk NDT w.heap.size z6 w5 := (hm5.block _ (by omega) (by omega)).trans HZ4.out
     have hK5 : Blk KT w3.heap.size #[.int .i64 t.kind, .string ⟨t.word.toArray⟩, .int .i64 t.num, .int .i64 t.at_] w5 := (hm5.block _ (by omega) (by omega)).trans HK4.out
     have hM5 := HM4.out.trans hm5
     have hTy1 := hTy.mono (S' := (fun j => New w j ∧ j ≠ w.heap.size ∧ j ≠ w1.heap.size)) (fun j hj hl => by unfold New at *; omega)
     have hNy1 := hNy.mono (S' := (fun j => New w j ∧ j ≠ w.heap.size ∧ j ≠ w1.heap.size)) (fun j hj hl => by unfold New at *; omega)
     have hbbC := alloc_bel w5 (.cells #[.int .i64 y.kind, .string ⟨y.name.toArray⟩, .int .i64 y.num, .slice la y.kids.length lc, .slice ma y.names.length mc, .int .i64 y.at_] NDT)
     have hMkC := Blk.made (T := NDT) (cs := #[.int .i64 y.kind, .string ⟨y.name.toArray⟩, .int .i64 y.num, .slice la y.kids.length lc, .slice ma y.names.length mc, .int .i64 y.at_]) w5
     have hszC : (w5.alloc (.cells #[.int .i64 y.kind, .string ⟨y.name.toArray⟩, .int .i64 y.num, .slice la y.kids.length lc, .slice ma y.names.length mc, .int .i64 y.at_] NDT)).heap.size = w5.heap.size + 1 := by simp
     have hP6 := hP5.bel hbbC
     have hM6 := hM5.alloc (.cells #[.int .i64 y.kind, .string ⟨y.name.toArray⟩, .int .i64 y.num, .slice la y.kids.length lc, .slice ma y.names.length mc, .int .i64 y.at_] NDT)
     have hZ6 := hZ5.alloc (.cells #[.int .i64 y.kind, .string ⟨y.name.toArray⟩, .int .i64 y.num, .slice la y.kids.length lc, .slice ma y.names.length mc, .int .i64 y.at_] NDT)
     have hX6 := hX5.bel hbbC
     have hK6 := hK5.alloc (.cells #[.int .i64 y.kind, .string ⟨y.name.toArray⟩, .int .i64 y.num, .slice la y.kids.length lc, .slice ma y.names.length mc, .int .i64 y.at_] NDT)
     have hTy6 := hTy1.bel hbbC
     have hNy6 := hNy1.below hbbC
     obtain ⟨W6, halC⟩ : ∃ W, w5.alloc (.cells #[.int .i64 y.kind, .string ⟨y.name.toArray⟩, .int .i64 y.num, .slice la y.kids.length lc, .slice ma y.names.length mc, .int .i64 y.at_] NDT) = W := ⟨_, rfl⟩
     rw [halC] at hMkC hszC hP6 hM6 hZ6 hX6 hK6 hTy6 hNy6
     clear hbbC
     obtain ⟨xa, xc, ya, yc, hB6, hT6, hN6⟩ := hX6
     unfold ndA at hB6
     have e0 := hB6.c 0 _ rfl
     have e1 := hB6.c 1 _ rfl
     have e2 := hB6.c 2 _ rfl
     have e3 := hB6.c 3 _ rfl
     have e4 := hB6.c 4 _ rfl
     have e5 := hB6.c 5 _ rfl
     have f0 := hMkC.c 0 _ rfl
     have f1 := hMkC.c 1 _ rfl
     have f2 := hMkC.c 2 _ rfl
     have f3 := hMkC.c 3 _ rfl
     have f4 := hMkC.c 4 _ rfl
     have f5 := hMkC.c 5 _ rfl
     have k0 := hK6.c 0 _ rfl
     have k1 := hK6.c 1 _ rfl
     have k2 := hK6.c 2 _ rfl
     have k3 := hK6.c 3 _ rfl
     have hbbD := alloc_bel W6 (.cells #[.int .i64 x.kind, .string ⟨x.name.toArray⟩, .int .i64 x.num, .slice xa x.kids.length xc, .slice ya x.names.length yc, .int .i64 x.at_, .int .i64 y.kind, .string ⟨y.name.toArray⟩, .int .i64 y.num, .slice la y.kids.length lc, .slice ma y.names.length mc, .int .i64 y.at_] NDT)
     have hMkD := Blk.made (T := NDT) (cs := #[.int .i64 x.kind, .string ⟨x.name.toArray⟩, .int .i64 x.num, .slice xa x.kids.length xc, .slice ya x.names.length yc, .int .i64 x.at_, .int .i64 y.kind, .string ⟨y.name.toArray⟩, .int .i64 y.num, .slice la y.kids.length lc, .slice ma y.names.length mc, .int .i64 y.at_]) W6
     have hszD : (W6.alloc (.cells #[.int .i64 x.kind, .string ⟨x.name.toArray⟩, .int .i64 x.num, .slice xa x.kids.length xc, .slice ya x.names.length yc, .int .i64 x.at_, .int .i64 y.kind, .string ⟨y.name.toArray⟩, .int .i64 y.num, .slice la y.kids.length lc, .slice ma y.names.length mc, .int .i64 y.at_] NDT)).heap.size = W6.heap.size + 1 := by simp
     have hP7 := hP6.bel hbbD
     have hM7 := hM6.alloc (.cells #[.int .i64 x.kind, .string ⟨x.name.toArray⟩, .int .i64 x.num, .slice xa x.kids.length xc, .slice ya x.names.length yc, .int .i64 x.at_, .int .i64 y.kind, .string ⟨y.name.toArray⟩, .int .i64 y.num, .slice la y.kids.length lc, .slice ma y.names.length mc, .int .i64 y.at_] NDT)
     have hZ7 := hZ6.alloc (.cells #[.int .i64 x.kind, .string ⟨x.name.toArray⟩, .int .i64 x.num, .slice xa x.kids.length xc, .slice ya x.names.length yc, .int .i64 x.at_, .int .i64 y.kind, .string ⟨y.name.toArray⟩, .int .i64 y.num, .slice la y.kids.length lc, .slice ma y.names.length mc, .int .i64 y.at_] NDT)
     have hB7 := hB6.alloc (.cells #[.int .i64 x.kind, .string ⟨x.name.toArray⟩, .int .i64 x.num, .slice xa x.kids.length xc, .slice ya x.names.length yc, .int .i64 x.at_, .int .i64 y.kind, .string ⟨y.name.toArray⟩, .int .i64 y.num, .slice la y.kids.length lc, .slice ma y.names.length mc, .int .i64 y.at_] NDT)
     have hTy7 := hTy6.bel hbbD
     have hNy7 := hNy6.below hbbD
     have hT7 := hT6.bel hbbD
     have hN7 := hN6.below hbbD
     obtain ⟨W7, halD⟩ : ∃ W, W6.alloc (.cells #[.int .i64 x.kind, .string ⟨x.name.toArray⟩, .int .i64 x.num, .slice xa x.kids.length xc, .slice ya x.names.length yc, .int .i64 x.at_, .int .i64 y.kind, .string ⟨y.name.toArray⟩, .int .i64 y.num, .slice la y.kids.length lc, .slice ma y.names.length mc, .int .i64 y.at_] NDT) = W := ⟨_, rfl⟩
     rw [halD] at hMkD hszD hP7 hM7 hZ7 hB7 hTy7 hNy7 hT7 hN7
     clear hbbD
     have hG : Tree (fun j => New w j ∧ j ≠ w.heap.size ∧ j ≠ w1.heap.size) W7 (.slice (some ⟨W6.heap.size, 0, none⟩) 2 2) [x, y] := tree_two (T := NDT) hMkD (by unfold New; omega) hT7 hN7 hTy7 hNy7
     rw [hszC] at hG
     have HP7 := Lib.hid hP7
     have HM7 := Lib.hid hM7
     have HZ7 := Lib.hid hZ7
     have HB7 := Lib.hid hB7
     have HG := Lib.hid hG
     clear HX5 HZ4 HK4 HM4 HP4 hv hm5 hP5 hTy hNy hX5 hZ5 hK5 hM5 hTy1 hNy1 hP6 hM6 hZ6 hK6 hTy6 hNy6 hB6 hT6 hN6 hP7 hM7 hZ7 hB7 hTy7 hNy7 hT7 hN7 hG hMkC hMkD
     unfold ndA
     go_wp2_with fail
     refine (send_any t ⟨t.word.toArray⟩ (some ⟨w5.heap.size + 1, 0, none⟩) 2 2 W7).mono ?_; rintro e w8 ⟨rfl, hb8⟩
     have hs8 := hb8.size
     have hP8 := HP7.out.bel hb8
     have hM8 := HM7.out.trans (Mv.of_bel hb8)
     have hB8 := HB7.out.below hb8 (by omega)
     have hZ8 := HZ7.out.below hb8 (by omega)
     have hG8 := HG.out.bel hb8
     clear e0 e1 e2 e3 e4 e5 f0 f1 f2 f3 f4 f5 k0 k1 k2 k3 hb8 halB halC halD
     have e0 := hB8.c 0 _ rfl
     have e1 := hB8.c 1 _ rfl
     have e2 := hB8.c 2 _ rfl
     have e3 := hB8.c 3 _ rfl
     have e4 := hB8.c 4 _ rfl
     have e5 := hB8.c 5 _ rfl
     have ef := hB8.fz
     have HP8 := Lib.hid hP8
     have HM8 := Lib.hid hM8
     have HB8 := Lib.hid hB8
     have HZ8 := Lib.hid hZ8
     have HG8 := Lib.hid hG8
     clear hP8 hM8 hB8 hZ8 hG8 HP7 HM7 HB7 HZ7 HG
     go_wp2_with fail
     have hP9 := pr_far6 (k := w1.heap.size) (v0 := .int .i64 7) (v1 := .string ⟨t.word.toArray⟩) (v2 := .int .i64 0) (v3 := .slice (some ⟨w5.heap.size + 1, 0, none⟩) 2 2) (v4 := .slice none 0 0) (v5 := .int .i64 t.at_) HP8.out (by omega) (by omega)
     refine ⟨⟨a2, g', sendN t t.word [x, y], true, rfl, q2, by omega, by omega, HRR, Lib.hid ⟨_, _, _, _, blk_set6 HB8.out, HG8.out.kp (kp_set6 (by simp)), rd_none _ _⟩, Lib.hid (blk_far6 HZ8.out (by omega)), Lib.hid hP9, Lib.hid (mv_set6 HM8.out (by omega)), by rw [size_set6]; omega⟩, ?_⟩
     rw [hP9.at_]; omega
end
end Pa
end Go.Proofs.YtbdgoimbddlcoaaGreatDoor
namespace Go.Proofs.YtbdgoimbddlcoaaGreatDoor
open Go.RowKit
namespace Pa
open Bs Sm Tr
open Lx (Mv)
section
variable {b : Nat} {L : List Pt} {tb tc : Nat} {bad : Int} {a d f : Nat} {w w' w0 : World} {S S' : Nat → Prop} {K : Nat} {x : Nd}
set_option maxRecDepth 100000 in
set_option maxHeartbeats 3200000 in
theorem msg_step (hL : LOk L) (h : PA L bad f) (hP : Pr b L tb tc bad a d w) (ha : a < L.length) (hd : d ≤ 40) {S : Nat → Prop} {v : Value} {x0 : Nd} (hv0 : NdAt S w v x0) (hSb : ¬ S b) (hf : 16 * (L.length - a) + 2 ≤ f + 1) :
  Calls Tryz.prog 197 #[.pointer (some ⟨b, 0, none⟩), v] w (NdO b L tb tc bad d (fun k => S k ∨ New w k) (msgP L bad (f + 1) d a x0) w) := by
 have hlen := hL.len
 have hbl := hP.blk.lt
 have htl := hP.lt
 obtain ⟨xa, xc, ya, yc, rfl, hTx, hNx⟩ := hv0.form
 have hTx := hTx.mono (S' := (fun j => (S j ∨ New w j) ∧ j ≠ w.heap.size + 1)) (fun j hj hl => ⟨.inl hj, by omega⟩)
 have hNx := hNx.mono (S' := (fun j => (S j ∨ New w j) ∧ j ≠ w.heap.size + 1)) (fun j hj hl => ⟨.inl hj, by omega⟩)
 have hnm := hL.kind a ha
 have hSB : Hid (¬ ((S b ∨ New w b) ∧ b ≠ w.heap.size + 1)) := Lib.hid (fun hj => by rcases hj.1 with hj | hj; exact hSb hj; unfold New at hj; omega)
 have HM0 := Lib.hid (Mv.refl b w)
 have hm0 := HM0.out
 unfold ndA
 have hbbA := alloc_bel w (.cells #[.int .i64 x0.kind, .string ⟨x0.name.toArray⟩, .int .i64 x0.num, .slice xa x0.kids.length xc, .slice ya x0.names.length yc, .int .i64 x0.at_] NDT)
 have hMkA := Blk.made (T := NDT) (cs := #[.int .i64 x0.kind, .string ⟨x0.name.toArray⟩, .int .i64 x0.num, .slice xa x0.kids.length xc, .slice ya x0.names.length yc, .int .i64 x0.at_]) w
 have hszA : (w.alloc (.cells #[.int .i64 x0.kind, .string ⟨x0.name.toArray⟩, .int .i64 x0.num, .slice xa x0.kids.length xc, .slice ya x0.names.length yc, .int .i64 x0.at_] NDT)).heap.size = w.heap.size + 1 := by simp
 have hP1 := hP.bel hbbA
 have hM1 := hm0.alloc (.cells #[.int .i64 x0.kind, .string ⟨x0.name.toArray⟩, .int .i64 x0.num, .slice xa x0.kids.length xc, .slice ya x0.names.length yc, .int .i64 x0.at_] NDT)
 have hT1 := hTx.bel hbbA
 have hN1 := hNx.below hbbA
 obtain ⟨W1, halA⟩ : ∃ W, w.alloc (.cells #[.int .i64 x0.kind, .string ⟨x0.name.toArray⟩, .int .i64 x0.num, .slice xa x0.kids.length xc, .slice ya x0.names.length yc, .int .i64 x0.at_] NDT) = W := ⟨_, rfl⟩
 rw [halA] at hMkA hszA hP1 hM1 hT1 hN1
 clear hbbA
 have hbbB := alloc_bel W1 (.cells #[.int .i64 0, .string ⟨#[]⟩, .int .i64 0, .slice none 0 0, .slice none 0 0, .int .i64 0] NDT)
 have hMkB := Blk.made (T := NDT) (cs := #[.int .i64 0, .string ⟨#[]⟩, .int .i64 0, .slice none 0 0, .slice none 0 0, .int .i64 0]) W1
 have hszB : (W1.alloc (.cells #[.int .i64 0, .string ⟨#[]⟩, .int .i64 0, .slice none 0 0, .slice none 0 0, .int .i64 0] NDT)).heap.size = W1.heap.size + 1 := by simp
 have hP2 := hP1.bel hbbB
 have hM2 := hM1.alloc (.cells #[.int .i64 0, .string ⟨#[]⟩, .int .i64 0, .slice none 0 0, .slice none 0 0, .int .i64 0] NDT)
 have hT2 := hT1.bel hbbB
 have hN2 := hN1.below hbbB
 have hB2 := hMkA.alloc (.cells #[.int .i64 0, .string ⟨#[]⟩, .int .i64 0, .slice none 0 0, .slice none 0 0, .int .i64 0] NDT)
 obtain ⟨W2, halB⟩ : ∃ W, W1.alloc (.cells #[.int .i64 0, .string ⟨#[]⟩, .int .i64 0, .slice none 0 0, .slice none 0 0, .int .i64 0] NDT) = W := ⟨_, rfl⟩
 rw [halB] at hMkB hszB hP2 hM2 hT2 hN2 hB2
 clear hbbB
 have hZ2 := hMkB
 rw [hszA] at hZ2
 have HN := Lib.hid (now_any hP2 ha)
 have HNX := fun w' (hb : Below W2.heap.size W2 w') => next_any (hP2.bel hb) ha hlen
 have HST := fun w' (hb : Below W2.heap.size W2 w') => stop_any (hP2.bel hb) ha
 obtain ⟨R, hR⟩ : ∃ R, msgP L bad (f + 1) d a x0 = R := ⟨_, rfl⟩
 rw [hR]
 rw [msgP] at hR
 unfold isK at hR
 have hkn := fun (k : Int) (hk : 0 < k) (he : (now L a).kind = k) => hL.next (k := k) (by simpa [isK] using he) hk ha
 obtain ⟨t, ht⟩ : ∃ t, now L a = t := ⟨_, rfl⟩
 rw [ht] at HN HNX hR hkn
 replace HNX := Lib.hid HNX
 replace HST := Lib.hid HST
 have HR := Lib.hid hR
 have HP2 := Lib.hid hP2
 have HM2 := Lib.hid hM2
 have HT2 := Lib.hid hT2
 have HN2 := Lib.hid hN2
 have HB2 := Lib.hid hB2
 have HZ2 := Lib.hid hZ2
 have HH := Lib.hid h
 have HL := Lib.hid hL
 clear hP1 hM1 hT1 hN1 hP2 hM2 hT2 hN2 hB2 hZ2 hR hMkA hMkB hTx hNx hm0 hP hv0 h hnm
 have F0 := fld0
 unfold ptV at HN HNX
 by_cases h1 : t.kind = 1
 · have hd1 : (t.kind == 1) = true := by simp [h1]
   have H1 := Lib.hid h1
   clear h1
   have hk1 := hkn 1 (by omega) H1.out
   have hR := HR.out
   rw [if_pos hd1] at hR
   subst hR
   clear HR
   go_enter Tryz.func197, Tryz.ntmps197
   go_wp2_with fail
   refine HN.out.mono ?_; rintro e w3 ⟨rfl, hb3⟩
   have hs3 := hb3.size
   go_wp2_with fail
   refine (HNX.out w3 hb3).mono ?_; rintro e w4 ⟨rfl, hP4, hm4⟩
   have hs4 := hm4.size
   have hB4 := (hm4.block _ (by omega) (by omega)).trans (HB2.out.below hb3 (by omega))
   have hZ4 := (hm4.block _ (by omega) (by omega)).trans (HZ2.out.below hb3 (by omega))
   have hM4 := (HM2.out.trans (Mv.of_bel hb3)).trans hm4
   have hT4 := (HT2.out.bel hb3).kp (Mv.kp hm4 hSB.out)
   have hN4 := (HN2.out.below hb3).kp (Mv.kp hm4 hSB.out)
   have hB4 : Blk NDT w.heap.size #[.int .i64 x0.kind, .string ⟨x0.name.toArray⟩, .int .i64 x0.num, .slice xa x0.kids.length xc, .slice ya x0.names.length yc, .int .i64 x0.at_] w4 := hB4
   have hZ4 : Blk NDT (w.heap.size + 1) #[.int .i64 0, .string ⟨#[]⟩, .int .i64 0, .slice none 0 0, .slice none 0 0, .int .i64 0] w4 := hZ4
   have hbbC := alloc_bel w4 (.cells #[.int .i64 t.kind, .string ⟨t.word.toArray⟩, .int .i64 t.num, .int .i64 t.at_] KT)
   have hMkC := Blk.made (T := KT) (cs := #[.int .i64 t.kind, .string ⟨t.word.toArray⟩, .int .i64 t.num, .int .i64 t.at_]) w4
   have hszC : (w4.alloc (.cells #[.int .i64 t.kind, .string ⟨t.word.toArray⟩, .int .i64 t.num, .int .i64 t.at_] KT)).heap.size = w4.heap.size + 1 := by simp
   have hP5 := hP4.bel hbbC
   have hM5 := hM4.alloc (.cells #[.int .i64 t.kind, .string ⟨t.word.toArray⟩, .int .i64 t.num, .int .i64 t.at_] KT)
   have hZ5 := hZ4.alloc (.cells #[.int .i64 t.kind, .string ⟨t.word.toArray⟩, .int .i64 t.num, .int .i64 t.at_] KT)
   have hB5 := hB4.alloc (.cells #[.int .i64 t.kind, .string ⟨t.word.toArray⟩, .int .i64 t.num, .int .i64 t.at_] KT)
   have hT5 := hT4.bel hbbC
   have hN5 := hN4.below hbbC
   obtain ⟨W5, halC⟩ : ∃ W, w4.alloc (.cells #[.int .i64 t.kind, .string ⟨t.word.toArray⟩, .int .i64 t.num, .int .i64 t.at_] KT) = W := ⟨_, rfl⟩
   rw [halC] at hMkC hszC hP5 hM5 hZ5 hB5 hT5 hN5
   clear hbbC
   have k0 := hMkC.c 0 _ rfl
   have k1 := hMkC.c 1 _ rfl
   have k2 := hMkC.c 2 _ rfl
   have k3 := hMkC.c 3 _ rfl
   have e0 := hB5.c 0 _ rfl
   have e1 := hB5.c 1 _ rfl
   have e2 := hB5.c 2 _ rfl
   have e3 := hB5.c 3 _ rfl
   have e4 := hB5.c 4 _ rfl
   have e5 := hB5.c 5 _ rfl
   have hbbD := alloc_bel W5 (.cells #[.int .i64 x0.kind, .string ⟨x0.name.toArray⟩, .int .i64 x0.num, .slice xa x0.kids.length xc, .slice ya x0.names.length yc, .int .i64 x0.at_] NDT)
   have hMkD := Blk.made (T := NDT) (cs := #[.int .i64 x0.kind, .string ⟨x0.name.toArray⟩, .int .i64 x0.num, .slice xa x0.kids.length xc, .slice ya x0.names.length yc, .int .i64 x0.at_]) W5
   have hszD : (W5.alloc (.cells #[.int .i64 x0.kind, .string ⟨x0.name.toArray⟩, .int .i64 x0.num, .slice xa x0.kids.length xc, .slice ya x0.names.length yc, .int .i64 x0.at_] NDT)).heap.size = W5.heap.size + 1 := by simp
   have hP6 := hP5.bel hbbD
   have hM6 := hM5.alloc (.cells #[.int .i64 x0.kind, .string ⟨x0.name.toArray⟩, .int .i64 x0.num, .slice xa x0.kids.length xc, .slice ya x0.names.length yc, .int .i64 x0.at_] NDT)
   have hZ6 := hZ5.alloc (.cells #[.int .i64 x0.kind, .string ⟨x0.name.toArray⟩, .int .i64 x0.num, .slice xa x0.kids.length xc, .slice ya x0.names.length yc, .int .i64 x0.at_] NDT)
   have hT6 := hT5.bel hbbD
   have hN6 := hN5.below hbbD
   obtain ⟨W6, halD⟩ : ∃ W, W5.alloc (.cells #[.int .i64 x0.kind, .string ⟨x0.name.toArray⟩, .int .i64 x0.num, .slice xa x0.kids.length xc, .slice ya x0.names.length yc, .int .i64 x0.at_] NDT) = W := ⟨_, rfl⟩
   rw [halD] at hMkD hszD hP6 hM6 hZ6 hT6 hN6
   clear hbbD
   have hG : Tree (fun j => (S j ∨ New w j) ∧ j ≠ w.heap.size + 1) W6 (.slice (some ⟨W5.heap.size, 0, none⟩) 1 1) [x0] := tree_one (T := NDT) hMkD (by unfold New; omega) hT6 hN6
   rw [hszC] at hG
   have HP6 := Lib.hid hP6
   have HM6 := Lib.hid hM6
   have HZ6 := Lib.hid hZ6
   have HG := Lib.hid hG
   clear hP4 hm4 hB4 hZ4 hM4 hT4 hN4 hP5 hM5 hZ5 hB5 hT5 hN5 hP6 hM6 hZ6 hT6 hN6 hG hMkC hMkD hb3
   go_wp2_with fail
   refine (send_any t ⟨t.word.toArray⟩ (some ⟨w4.heap.size + 1, 0, none⟩) 1 1 W6).mono ?_; rintro e w7 ⟨rfl, hb7⟩
   have hs7 := hb7.size
   have hZ7 := HZ6.out.below hb7 (by omega)
   have hP7 := HP6.out.bel hb7
   have hM7 := HM6.out.trans (Mv.of_bel hb7)
   have hG7 := HG.out.bel hb7
   clear e0 e1 e2 e3 e4 e5 k0 k1 k2 k3
   have z0 := hZ7.c 0 _ rfl
   have z1 := hZ7.c 1 _ rfl
   have z2 := hZ7.c 2 _ rfl
   have z3 := hZ7.c 3 _ rfl
   have z4 := hZ7.c 4 _ rfl
   have z5 := hZ7.c 5 _ rfl
   have zf := hZ7.fz
   have HP7 := Lib.hid hP7
   have HM7 := Lib.hid hM7
   have HG7 := Lib.hid hG7
   clear hP7 hM7 hG7 hZ7 hb7 HP6 HM6 HZ6 HG
   go_wp2_with fail
   refine bodyPost_ret (v := .agg #[.int .i64 7, .string ⟨t.word.toArray⟩, .int .i64 0, .slice (some ⟨w4.heap.size + 1, 0, none⟩) 1 1, .slice none 0 0, .int .i64 t.at_]) (by simp [results, Tryz.results197, go_sem, ndA, z0, z1, z2, z3, z4, z5]) rfl ?_
   refine ⟨_, ⟨_, _, rfl, (HG7.out.kp (kp_set6 ?_)).mono (fun j hj _ => ?_), rd_none _ _⟩, rfl, pr_far6 HP7.out (by omega) (by omega), mv_set6 HM7.out (by omega)⟩
   all_goals (simp [New] at *)
   all_goals (first | done | omega | exact hj.1)
 have hd1 : (t.kind == 1) = false := by simp [h1]
 by_cases h6 : t.kind = 6
 · have hd6 : (t.kind == 6) = true := by simp [h6]
   have H6 := Lib.hid h6
   clear h6
   have hk1 := hkn 6 (by omega) H6.out
   have hR := HR.out
   rw [if_neg (by rw [hd1]; simp), if_pos hd6] at hR
   have HC := fun (w' : World) (hp : Pr b L tb tc bad (a + 1) d w') => HH.out.un hp hk1 hd (by omega)
   obtain ⟨E, hE⟩ : ∃ E, unP L bad f d (a + 1) = E := ⟨_, rfl⟩
   rw [hE] at HC hR
   replace HC := Lib.hid HC
   replace HR := Lib.hid hR
   clear hR hE
   go_enter Tryz.func197, Tryz.ntmps197
   go_wp2_with fail
   refine HN.out.mono ?_; rintro e w3 ⟨rfl, hb3⟩
   have hs3 := hb3.size
   go_wp2_with fail
   refine (HNX.out w3 hb3).mono ?_; rintro e w4 ⟨rfl, hP4, hm4⟩
   have hs4 := hm4.size
   have hB4 := (hm4.block _ (by omega) (by omega)).trans (HB2.out.below hb3 (by omega))
   have hZ4 := (hm4.block _ (by omega) (by omega)).trans (HZ2.out.below hb3 (by omega))
   have hM4 := (HM2.out.trans (Mv.of_bel hb3)).trans hm4
   have hT4 := (HT2.out.bel hb3).kp (Mv.kp hm4 hSB.out)
   have hN4 := (HN2.out.below hb3).kp (Mv.kp hm4 hSB.out)
   have hB4 : Blk NDT w.heap.size #[.int .i64 x0.kind, .string ⟨x0.name.toArray⟩, .int .i64 x0.num, .slice xa x0.kids.length xc, .slice ya x0.names.length yc, .int .i64 x0.at_] w4 := hB4
   have hZ4 : Blk NDT (w.heap.size + 1) #[.int .i64 0, .string ⟨#[]⟩, .int .i64 0, .slice none 0 0, .slice none 0 0, .int .i64 0] w4 := hZ4
   have hbbC := alloc_bel w4 (.cells #[.int .i64 t.kind, .string ⟨t.word.toArray⟩, .int .i64 t.num, .int .i64 t.at_] KT)
   have hMkC := Blk.made (T := KT) (cs := #[.int .i64 t.kind, .string ⟨t.word.toArray⟩, .int .i64 t.num, .int .i64 t.at_]) w4
   have hszC : (w4.alloc (.cells #[.int .i64 t.kind, .string ⟨t.word.toArray⟩, .int .i64 t.num, .int .i64 t.at_] KT)).heap.size = w4.heap.size + 1 := by simp
   have hP5 := hP4.bel hbbC
   have hM5 := hM4.alloc (.cells #[.int .i64 t.kind, .string ⟨t.word.toArray⟩, .int .i64 t.num, .int .i64 t.at_] KT)
   have hZ5 := hZ4.alloc (.cells #[.int .i64 t.kind, .string ⟨t.word.toArray⟩, .int .i64 t.num, .int .i64 t.at_] KT)
   have hB5 := hB4.alloc (.cells #[.int .i64 t.kind, .string ⟨t.word.toArray⟩, .int .i64 t.num, .int .i64 t.at_] KT)
   have hT5 := hT4.bel hbbC
   have hN5 := hN4.below hbbC
   obtain ⟨W5, halC⟩ : ∃ W, w4.alloc (.cells #[.int .i64 t.kind, .string ⟨t.word.toArray⟩, .int .i64 t.num, .int .i64 t.at_] KT) = W := ⟨_, rfl⟩
   rw [halC] at hMkC hszC hP5 hM5 hZ5 hB5 hT5 hN5
   clear hbbC
   have HP5 := Lib.hid hP5
   have HM5 := Lib.hid hM5
   have HZ5 := Lib.hid hZ5
   have HB5 := Lib.hid hB5
   have HT5 := Lib.hid hT5
   have HN5 := Lib.hid hN5
   have HK5 := Lib.hid hMkC
   clear hP4 hm4 hB4 hZ4 hM4 hT4 hN4 hP5 hM5 hZ5 hB5 hT5 hN5 hMkC hb3
   go_wp2_with fail
   refine (HC.out W5 HP5.out).mono ?_; intro e w6 ht
   cases E with
   | error y =>
    obtain ⟨rfl, hm⟩ := ht
    have hR := HR.out
    simp only [bind, Except.bind] at hR
    subst hR
    go_wp2_with fail
    exact ⟨rfl, rfl, HM5.out.trans hm⟩
   | ok y =>
    obtain ⟨y, s2, a2⟩ := y
    have hR := HR.out
    simp only [bind, Except.bind] at hR
    subst hR
    obtain ⟨v, hv, rfl, hP6, hm6⟩ := ht
    obtain ⟨la, lc, ma, mc, rfl, hTy, hNy⟩ := hv.form
    have hs6 := hm6.size
    have hB6 := (hm6.block _ (by omega) (by omega)).trans HB5.out
    have hZ6 := (hm6.block _ (by omega) (by omega)).trans HZ5.out
    have hK6 := (hm6.block _ (by omega) (by omega)).trans HK5.out
    have hM6 := HM5.out.trans hm6
    have hT6 := HT5.out.kp (Mv.kp hm6 hSB.out)
    have hN6 := HN5.out.kp (Mv.kp hm6 hSB.out)
    have hB6 : Blk NDT w.heap.size #[.int .i64 x0.kind, .string ⟨x0.name.toArray⟩, .int .i64 x0.num, .slice xa x0.kids.length xc, .slice ya x0.names.length yc, .int .i64 x0.at_] w6 := hB6
    have hZ6 : Blk NDT (w.heap.size + 1) #[.int .i64 0, .string ⟨#[]⟩, .int .i64 0, .slice none 0 0, .slice none 0 0, .int .i64 0] w6 := hZ6
    have hK6 : Blk KT w4.heap.size #[.int .i64 t.kind, .string ⟨t.word.toArray⟩, .int .i64 t.num, .int .i64 t.at_] w6 := hK6
    have hTy1 := hTy.mono (S' := (fun j => (S j ∨ New w j) ∧ j ≠ w.heap.size + 1)) (fun j hj hl => by unfold New at *; omega)
    have hNy1 := hNy.mono (S' := (fun j => (S j ∨ New w j) ∧ j ≠ w.heap.size + 1)) (fun j hj hl => by unfold New at *; omega)
    have hbbD := alloc_bel w6 (.cells #[.int .i64 y.kind, .string ⟨y.name.toArray⟩, .int .i64 y.num, .slice la y.kids.length lc, .slice ma y.names.length mc, .int .i64 y.at_] NDT)
    have hMkD := Blk.made (T := NDT) (cs := #[.int .i64 y.kind, .string ⟨y.name.toArray⟩, .int .i64 y.num, .slice la y.kids.length lc, .slice ma y.names.length mc, .int .i64 y.at_]) w6
    have hszD : (w6.alloc (.cells #[.int .i64 y.kind, .string ⟨y.name.toArray⟩, .int .i64 y.num, .slice la y.kids.length lc, .slice ma y.names.length mc, .int .i64 y.at_] NDT)).heap.size = w6.heap.size + 1 := by simp
    have hP7 := hP6.bel hbbD
    have hM7 := hM6.alloc (.cells #[.int .i64 y.kind, .string ⟨y.name.toArray⟩, .int .i64 y.num, .slice la y.kids.length lc, .slice ma y.names.length mc, .int .i64 y.at_] NDT)
    have hZ7 := hZ6.alloc (.cells #[.int .i64 y.kind, .string ⟨y.name.toArray⟩, .int .i64 y.num, .slice la y.kids.length lc, .slice ma y.names.length mc, .int .i64 y.at_] NDT)
    have hB7 := hB6.alloc (.cells #[.int .i64 y.kind, .string ⟨y.name.toArray⟩, .int .i64 y.num, .slice la y.kids.length lc, .slice ma y.names.length mc, .int .i64 y.at_] NDT)
    have hK7 := hK6.alloc (.cells #[.int .i64 y.kind, .string ⟨y.name.toArray⟩, .int .i64 y.num, .slice la y.kids.length lc, .slice ma y.names.length mc, .int .i64 y.at_] NDT)
    have hT7 := hT6.bel hbbD
    have hN7 := hN6.below hbbD
    have hTy7 := hTy1.bel hbbD
    have hNy7 := hNy1.below hbbD
    obtain ⟨W7, halD⟩ : ∃ W, w6.alloc (.cells #[.int .i64 y.kind, .string ⟨y.name.toArray⟩, .int .i64 y.num, .slice la y.kids.length lc, .slice ma y.names.length mc, .int .i64 y.at_] NDT) = W := ⟨_, rfl⟩
    rw [halD] at hMkD hszD hP7 hM7 hZ7 hB7 hK7 hT7 hN7 hTy7 hNy7
    clear hbbD
    have k0 := hK7.c 0 _ rfl
    have k1 := hK7.c 1 _ rfl
    have k2 := hK7.c 2 _ rfl
    have k3 := hK7.c 3 _ rfl
    have e0 := hB7.c 0 _ rfl
    have e1 := hB7.c 1 _ rfl
    have e2 := hB7.c 2 _ rfl
    have e3 := hB7.c 3 _ rfl
    have e4 := hB7.c 4 _ rfl
    have e5 := hB7.c 5 _ rfl
    have f0 := hMkD.c 0 _ rfl
    have f1 := hMkD.c 1 _ rfl
    have f2 := hMkD.c 2 _ rfl
    have f3 := hMkD.c 3 _ rfl
    have f4 := hMkD.c 4 _ rfl
    have f5 := hMkD.c 5 _ rfl
    have hbbE := alloc_bel W7 (.cells #[.int .i64 x0.kind, .string ⟨x0.name.toArray⟩, .int .i64 x0.num, .slice xa x0.kids.length xc, .slice ya x0.names.length yc, .int .i64 x0.at_, .int .i64 y.kind, .string ⟨y.name.toArray⟩, .int .i64 y.num, .slice la y.kids.length lc, .slice ma y.names.length mc, .int .i64 y.at_] NDT)
    have hMkE := Blk.made (T := NDT) (cs := #[.int .i64 x0.kind, .string ⟨x0.name.toArray⟩, .int .i64 x0.num, .slice xa x0.kids.length xc, .slice ya x0.names.length yc, .int .i64 x0.at_, .int .i64 y.kind, .string ⟨y.name.toArray⟩, .int .i64 y.num, .slice la y.kids.length lc, .slice ma y.names.length mc, .int .i64 y.at_]) W7
    have hszE : (W7.alloc (.cells #[.int .i64 x0.kind, .string ⟨x0.name.toArray⟩, .int .i64 x0.num, .slice xa x0.kids.length xc, .slice ya x0.names.length yc, .int .i64 x0.at_, .int .i64 y.kind, .string ⟨y.name.toArray⟩, .int .i64 y.num, .slice la y.kids.length lc, .slice ma y.names.length mc, .int .i64 y.at_] NDT)).heap.size = W7.heap.size + 1 := by simp
    have hP8 := hP7.bel hbbE
    have hM8 := hM7.alloc (.cells #[.int .i64 x0.kind, .string ⟨x0.name.toArray⟩, .int .i64 x0.num, .slice xa x0.kids.length xc, .slice ya x0.names.length yc, .int .i64 x0.at_, .int .i64 y.kind, .string ⟨y.name.toArray⟩, .int .i64 y.num, .slice la y.kids.length lc, .slice ma y.names.length mc, .int .i64 y.at_] NDT)
    have hZ8 := hZ7.alloc (.cells #[.int .i64 x0.kind, .string ⟨x0.name.toArray⟩, .int .i64 x0.num, .slice xa x0.kids.length xc, .slice ya x0.names.length yc, .int .i64 x0.at_, .int .i64 y.kind, .string ⟨y.name.toArray⟩, .int .i64 y.num, .slice la y.kids.length lc, .slice ma y.names.length mc, .int .i64 y.at_] NDT)
    have hT8 := hT7.bel hbbE
    have hN8 := hN7.below hbbE
    have hTy8 := hTy7.bel hbbE
    have hNy8 := hNy7.below hbbE
    obtain ⟨W8, halE⟩ : ∃ W, W7.alloc (.cells #[.int .i64 x0.kind, .string ⟨x0.name.toArray⟩, .int .i64 x0.num, .slice xa x0.kids.length xc, .slice ya x0.names.length yc, .int .i64 x0.at_, .int .i64 y.kind, .string ⟨y.name.toArray⟩, .int .i64 y.num, .slice la y.kids.length lc, .slice ma y.names.length mc, .int .i64 y.at_] NDT) = W := ⟨_, rfl⟩
    rw [halE] at hMkE hszE hP8 hM8 hZ8 hT8 hN8 hTy8 hNy8
    clear hbbE
    have hG : Tree (fun j => (S j ∨ New w j) ∧ j ≠ w.heap.size + 1) W8 (.slice (some ⟨W7.heap.size, 0, none⟩) 2 2) [x0, y] := tree_two (T := NDT) hMkE (by unfold New; omega) hT8 hN8 hTy8 hNy8
    rw [hszD] at hG
    have HP8 := Lib.hid hP8
    have HM8 := Lib.hid hM8
    have HZ8 := Lib.hid hZ8
    have HG := Lib.hid hG
    clear hv hP6 hm6 hB6 hZ6 hK6 hM6 hT6 hN6 hTy hNy hTy1 hNy1 hP7 hM7 hZ7 hB7 hK7 hT7 hN7 hTy7 hNy7 hP8 hM8 hZ8 hT8 hN8 hTy8 hNy8 hG hMkD hMkE
    unfold ndA
    go_wp2_with fail
    refine (send_any t ⟨t.word.toArray⟩ (some ⟨w6.heap.size + 1, 0, none⟩) 2 2 W8).mono ?_; rintro e w9 ⟨rfl, hb9⟩
    have hs9 := hb9.size
    have hZ9 := HZ8.out.below hb9 (by omega)
    have hP9 := HP8.out.bel hb9
    have hM9 := HM8.out.trans (Mv.of_bel hb9)
    have hG9 := HG.out.bel hb9
    clear e0 e1 e2 e3 e4 e5 k0 k1 k2 k3 f0 f1 f2 f3 f4 f5
    have z0 := hZ9.c 0 _ rfl
    have z1 := hZ9.c 1 _ rfl
    have z2 := hZ9.c 2 _ rfl
    have z3 := hZ9.c 3 _ rfl
    have z4 := hZ9.c 4 _ rfl
    have z5 := hZ9.c 5 _ rfl
    have zf := hZ9.fz
    have HP9 := Lib.hid hP9
    have HM9 := Lib.hid hM9
    have HG9 := Lib.hid hG9
    clear hP9 hM9 hG9 hZ9 hb9 HP8 HM8 HZ8 HG
    go_wp2_with fail
    refine bodyPost_ret (v := .agg #[.int .i64 7, .string ⟨t.word.toArray⟩, .int .i64 0, .slice (some ⟨w6.heap.size + 1, 0, none⟩) 2 2, .slice none 0 0, .int .i64 t.at_]) (by simp [results, Tryz.results197, go_sem, ndA, z0, z1, z2, z3, z4, z5]) rfl ?_
    refine ⟨_, ⟨_, _, rfl, (HG9.out.kp (kp_set6 ?_)).mono (fun j hj _ => ?_), rd_none _ _⟩, rfl, pr_far6 HP9.out (by omega) (by omega), mv_set6 HM9.out (by omega)⟩
    all_goals (simp [New] at *)
    all_goals (first | done | omega | exact hj.1)
 have hd6 : (t.kind == 6) = false := by simp [h6]
 by_cases h2 : t.kind = 2
 · have hd2 : (t.kind == 2) = true := by simp [h2]
   have H2 := Lib.hid h2
   clear h2
   have hR := HR.out
   rw [if_neg (by rw [hd1]; simp), if_neg (by rw [hd6]; simp), if_pos hd2, ← ht] at hR
   have HC := fun (w' : World) (hb : Below W2.heap.size W2 w') => HH.out.kws (HP2.out.bel hb) ha hd (⟨_, _, rfl, HT2.out.bel hb, HN2.out.below hb⟩ : NdAt (fun j => (S j ∨ New w j) ∧ j ≠ w.heap.size + 1) w' _ x0) hSB.out (by omega)
   rw [hR] at HC
   unfold ndV at HC
   replace HC := Lib.hid HC
   clear hR
   go_enter Tryz.func197, Tryz.ntmps197
   go_wp2_with fail
   refine HN.out.mono ?_; rintro e w3 ⟨rfl, hb3⟩
   have hs3 := hb3.size
   have hB3 := HB2.out.below hb3 (by omega)
   have e0 := hB3.c 0 _ rfl
   have e1 := hB3.c 1 _ rfl
   have e2 := hB3.c 2 _ rfl
   have e3 := hB3.c 3 _ rfl
   have e4 := hB3.c 4 _ rfl
   have e5 := hB3.c 5 _ rfl
   have hw3 := Lib.hid hb3
   clear hb3
   go_wp2_with fail
   refine (HC.out w3 hw3.out).mono ?_; intro e w4 ht4
   have hM3 := HM2.out.trans (Mv.of_bel hw3.out)
   cases R with
   | error y =>
    obtain ⟨rfl, hm⟩ := ht4
    go_wp2_with fail
    exact ⟨rfl, rfl, hM3.trans hm⟩
   | ok y =>
    obtain ⟨y, a2⟩ := y
    obtain ⟨v, hv, rfl, hP4, hm4⟩ := ht4
    obtain ⟨la, lc, ma, mc, rfl, hTy, hNy⟩ := hv.form
    have hs4 := hm4.size
    have hZ4 : Blk NDT (w.heap.size + 1) #[.int .i64 0, .string ⟨#[]⟩, .int .i64 0, .slice none 0 0, .slice none 0 0, .int .i64 0] w4 := (hm4.block _ (by omega) (by omega)).trans (HZ2.out.below hw3.out (by omega))
    have hM4 := hM3.trans hm4
    have hTy1 := hTy.mono (S' := (fun j => (S j ∨ New w j) ∧ j ≠ w.heap.size + 1)) (fun j hj hl => by rcases hj with hj | hj; exact hj; unfold New at *; exact ⟨.inr (by omega), by omega⟩)
    have hNy1 := hNy.mono (S' := (fun j => (S j ∨ New w j) ∧ j ≠ w.heap.size + 1)) (fun j hj hl => by rcases hj with hj | hj; exact hj; unfold New at *; exact ⟨.inr (by omega), by omega⟩)
    have z0 := hZ4.c 0 _ rfl
    have z1 := hZ4.c 1 _ rfl
    have z2 := hZ4.c 2 _ rfl
    have z3 := hZ4.c 3 _ rfl
    have z4 := hZ4.c 4 _ rfl
    have z5 := hZ4.c 5 _ rfl
    have zf := hZ4.fz
    have HP4 := Lib.hid hP4
    have HM4 := Lib.hid hM4
    have HTy := Lib.hid hTy1
    have HNy := Lib.hid hNy1
    clear hv hP4 hm4 hM3 hM4 hZ4 hTy hNy hTy1 hNy1 e0 e1 e2 e3 e4 e5 hB3
    unfold ndA
    go_wp2_with fail
    refine bodyPost_ret (v := .agg #[.int .i64 y.kind, .string ⟨y.name.toArray⟩, .int .i64 y.num, .slice la y.kids.length lc, .slice ma y.names.length mc, .int .i64 y.at_]) (by simp [results, Tryz.results197, go_sem, ndA, z0, z1, z2, z3, z4, z5]) rfl ?_
    refine ⟨_, ⟨_, _, rfl, (HTy.out.kp (kp_set6 ?_)).mono (fun j hj _ => hj.1), (HNy.out.kp (kp_set6 ?_)).mono (fun j hj _ => hj.1)⟩, rfl, pr_far6 HP4.out (by omega) (by omega), mv_set6 HM4.out (by omega)⟩
    all_goals simp
 have hd2 : (t.kind == 2) = false := by simp [h2]
 have hR := HR.out
 rw [if_neg (by rw [hd1]; simp), if_neg (by rw [hd6]; simp), if_neg (by rw [hd2]; simp)] at hR
 subst hR
 go_enter Tryz.func197, Tryz.ntmps197
 go_wp2_with fail
 refine HN.out.mono ?_; rintro e w3 ⟨rfl, hb3⟩
 have hs3 := hb3.size
 go_wp2_with fail
 refine (HST.out w3 hb3).mono ?_; rintro e w4 ⟨rfl, hm4⟩
 go_wp2_with fail
 exact ⟨rfl, rfl, (HM2.out.trans (Mv.of_bel hb3)).trans hm4⟩
end
end Pa
end Go.Proofs.YtbdgoimbddlcoaaGreatDoor
