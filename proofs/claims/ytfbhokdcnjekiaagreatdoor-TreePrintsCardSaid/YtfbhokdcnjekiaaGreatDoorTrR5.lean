/- The reference's Check (printed by gen_trr5.py). -/
import Derived.Test.YtfbhokdcnjekiaaGreatDoorTrR4
import Derived.Deep.QuietTactic
import Derived.BigQuiet
set_option linter.unusedVariables false
namespace Go.Proofs.YtfbhokdcnjekiaaGreatDoor
open Go.RowKit
namespace Tr
open Bs Sm
theorem below_drewN {B : Nat} {a w : World} (h : Below B a w) (n : Nat) : Below B a (w.drewN n) := ⟨h.os, h.tape, h.output, h.size, h.block⟩
theorem rnumber_any (n : Int) (w : World) : Calls Tryz.prog 38 #[.int .i64 n] w (Done (.bool (decide (-4611686018427387904 ≤ n) && decide (n ≤ 4611686018427387903))) w) := by
 by_cases h1 : -4611686018427387904 ≤ n
 · have d1 : decide (-4611686018427387904 ≤ n) = true := decide_eq_true h1
   go_enter Tryz.func38, Tryz.ntmps38
   go_wp2_with fail
   go_ret
   exact ⟨by simp [d1], rfl⟩
 · have d1 : decide (-4611686018427387904 ≤ n) = false := decide_eq_false h1
   go_enter Tryz.func38, Tryz.ntmps38
   go_wp2_with fail
   go_ret
   exact ⟨by simp [d1], rfl⟩
set_option maxRecDepth 100000 in
set_option maxHeartbeats 3200000 in
theorem rcheck_any (m : Mt) (pv tv bv : Value) (hc : cntL m.body ≤ 100000) (w : World) (hm : MtAt (fun _ => True) w m pv tv bv) :
  Calls Tryz.prog 11 #[mtV m pv tv bv] w (Back (.int .i64 (checkM m)) w) := by
 have harin := arity_in m.name
 obtain ⟨pa, pc, rfl, hp1, hp2⟩ := hm.params.form
 obtain ⟨ta, tc, rfl, ht1, ht2⟩ := hm.temps.form
 obtain ⟨ba, bc, rfl, hb1, hb2⟩ := hm.body.form
 unfold maxLen at hp2 ht2 hb2
 obtain ⟨pl, hpl⟩ : ∃ q, m.params.length = q := ⟨_, rfl⟩
 obtain ⟨tl, htl⟩ : ∃ q, m.temps.length = q := ⟨_, rfl⟩
 obtain ⟨bl, hbl⟩ : ∃ q, m.body.length = q := ⟨_, rfl⟩
 rw [hpl, htl, hbl] at hm ⊢
 rw [hpl] at hp1
 rw [htl] at ht1
 rw [hbl] at hb1
 have hX := alloc_bel w (.cells #[.string ⟨m.name.toArray⟩, .slice pa pl pc, .slice ta tl tc, .int .i64 m.prim, .slice ba bl bc, .int .i64 m.at_] 25)
 have hbk := Blk.made (T := 25) (cs := #[.string ⟨m.name.toArray⟩, .slice pa pl pc, .slice ta tl tc, .int .i64 m.prim, .slice ba bl bc, .int .i64 m.at_]) w
 unfold mtV
 obtain ⟨W0, hW0⟩ : ∃ W, w.alloc (.cells #[.string ⟨m.name.toArray⟩, .slice pa pl pc, .slice ta tl tc, .int .i64 m.prim, .slice ba bl bc, .int .i64 m.at_] 25) = W := ⟨_, rfl⟩
 rw [hW0] at hX hbk
 have hm0 := hm.bel hX
 have Hb0 := Lib.hid hX
 have HBK := Lib.hid hbk
 have HM := Lib.hid hm0
 unfold checkM headB
 obtain ⟨ar, har⟩ : ∃ q, Lx.arityL m.name = q := ⟨_, rfl⟩
 obtain ⟨q1, hq1⟩ : ∃ q, m.params.all isName = q := ⟨_, rfl⟩
 obtain ⟨q2, hq2⟩ : ∃ q, m.temps.all isName = q := ⟨_, rfl⟩
 obtain ⟨q3, hq3⟩ : ∃ q, bodyB m.body = q := ⟨_, rfl⟩
 have HAr : Hid (∀ w', Calls Tryz.prog 34 #[.string ⟨m.name.toArray⟩] w' (fun e w'' => e = .returned (.int .i64 ar) ∧ w'' = w')) := Lib.hid (fun w' => by
  have := rarity_all m.name w'
  rw [har] at this
  exact this.mono (fun _ _ h => ⟨h.1, h.2.symm⟩))
 have HP : Hid (∀ n, Calls Tryz.prog 35 #[.slice pa pl pc] (W0.drewN n) (fun e w'' => e = .returned (.bool q1) ∧ w'' = W0.drewN n)) := Lib.hid (fun n => by
  have := rnames_any _ m.params _ (hm0.params.below (below_drewN (Below.refl _ W0) n))
  rw [hq1] at this
  exact this.mono (fun _ _ h => ⟨h.1, h.2.symm⟩))
 have HT : Hid (∀ n, Calls Tryz.prog 35 #[.slice ta tl tc] (W0.drewN n) (fun e w'' => e = .returned (.bool q2) ∧ w'' = W0.drewN n)) := Lib.hid (fun n => by
  have := rnames_any _ m.temps _ (hm0.temps.below (below_drewN (Below.refl _ W0) n))
  rw [hq2] at this
  exact this.mono (fun _ _ h => ⟨h.1, h.2.symm⟩))
 have HB : Hid (∀ n, Calls Tryz.prog 36 #[.slice ba bl bc] (W0.drewN n) (fun e w'' => e = .returned (.bool q3) ∧ w'' = W0.drewN n)) := Lib.hid (fun n => by
  have := rbody_any _ m.body _ (hm0.body.bel (below_drewN (Below.refl _ W0) n))
  rw [hq3] at this
  exact this.mono (fun _ _ h => ⟨h.1, h.2.symm⟩))
 rw [har] at harin ⊢
 rw [hq1, hq2, hq3, hpl]
 obtain ⟨P, hP⟩ : ∃ p, m.prim = p := ⟨_, rfl⟩
 have hprim : decide (0 ≤ P) = !decide (P < 0) := by
  by_cases h : 0 ≤ P
  · rw [decide_eq_true h, decide_eq_false (by omega)]; rfl
  · rw [decide_eq_false h, decide_eq_true (by omega)]; rfl
 have hprim2 : decide (P ≤ 999) = !decide (999 < P) := by
  by_cases h : P ≤ 999
  · rw [decide_eq_true h, decide_eq_false (by omega)]; rfl
  · rw [decide_eq_false h, decide_eq_true (by omega)]; rfl
 simp only [hP] at HBK hW0 ⊢
 obtain ⟨Q, hQ⟩ : ∃ Q : Int, (if (decide (ar = (pl : Int)) && decide (0 ≤ P) && decide (P ≤ 999) && q1 && q2 && q3) = false then (3 : Int) else if fitsK false false m.body = false then 3 else sizedL m.body) = Q := ⟨_, rfl⟩
 rw [hQ]
 have HQ := Lib.hid hQ
 have HCN := Lib.hid hc
 have HBL := Lib.hid hbl
 have c0 := HBK.out.c 0 _ rfl
 have c1 := HBK.out.c 1 _ rfl
 have c2 := HBK.out.c 2 _ rfl
 have c3 := HBK.out.c 3 _ rfl
 have c4 := HBK.out.c 4 _ rfl
 have c5 := HBK.out.c 5 _ rfl
 clear hm hm0 hX hbk hc har hq1 hq2 hq3 hpl htl hbl hQ hP
 by_cases a1 : ar = (pl : Int)
 case neg =>
  have b1 : (ar == (pl : Int)) = false := beq_eq_false_iff_ne.2 a1
  have b1d : decide (ar = (pl : Int)) = false := decide_eq_false a1
  clear hprim hprim2
  go_enter Tryz.func11, Tryz.ntmps11
  go_upto_region 1 with fail
  have HQ2 : Hid (Q = 3) := Lib.hid (by rw [← HQ.out]; simp [b1d])
  go_quiet (first | ((go_at_call 34; exact Calls.quiet_of_same (HAr.out _))) | ((go_at_call_of 35 (Value.slice pa pl pc); exact Calls.quiet_of_same (HP.out _))) | ((go_at_call_of 35 (Value.slice ta tl tc); exact Calls.quiet_of_same (HT.out _))) | ((go_at_call 36; exact Calls.quiet_of_same (HB.out _))))
  go_wp2_with fail
  go_ret
  exact ⟨by rw [HQ2.out]; first | done | rfl | simp, below_drewN Hb0.out _⟩
 have b1 : (ar == (pl : Int)) = true := beq_iff_eq.2 a1
 have b1n : (ar != (pl : Int)) = false := by simp [bne, b1]
 have b1d : decide (ar = (pl : Int)) = true := decide_eq_true a1
 have HA1 := Lib.hid a1
 clear a1
 cases hb2 : decide (P < 0)
 case true =>
  rw [hb2] at hprim
  have HPR := Lib.hid hprim
  clear hprim hprim2
  go_enter Tryz.func11, Tryz.ntmps11
  go_upto_region 1 with fail
  have HQ2 : Hid (Q = 3) := Lib.hid (by rw [← HQ.out]; simp [HPR.out])
  go_quiet (first | ((go_at_call 34; exact Calls.quiet_of_same (HAr.out _))) | ((go_at_call_of 35 (Value.slice pa pl pc); exact Calls.quiet_of_same (HP.out _))) | ((go_at_call_of 35 (Value.slice ta tl tc); exact Calls.quiet_of_same (HT.out _))) | ((go_at_call 36; exact Calls.quiet_of_same (HB.out _))))
  go_wp2_with fail
  go_ret
  exact ⟨by rw [HQ2.out]; first | done | rfl | simp, below_drewN Hb0.out _⟩
 cases hb3 : decide (999 < P)
 case true =>
  rw [hb3] at hprim2
  have HPR := Lib.hid hprim2
  clear hprim hprim2
  go_enter Tryz.func11, Tryz.ntmps11
  go_upto_region 1 with fail
  have HQ2 : Hid (Q = 3) := Lib.hid (by rw [← HQ.out]; simp [HPR.out])
  go_quiet (first | ((go_at_call 34; exact Calls.quiet_of_same (HAr.out _))) | ((go_at_call_of 35 (Value.slice pa pl pc); exact Calls.quiet_of_same (HP.out _))) | ((go_at_call_of 35 (Value.slice ta tl tc); exact Calls.quiet_of_same (HT.out _))) | ((go_at_call 36; exact Calls.quiet_of_same (HB.out _))))
  go_wp2_with fail
  go_ret
  exact ⟨by rw [HQ2.out]; first | done | rfl | simp, below_drewN Hb0.out _⟩
 have HPR := Lib.hid hprim
 have HPR2 := Lib.hid hprim2
 clear hprim hprim2
 cases q1
 case false =>
  go_enter Tryz.func11, Tryz.ntmps11
  go_upto_region 1 with fail
  have HQ2 : Hid (Q = 3) := Lib.hid (by rw [← HQ.out]; simp [b1d])
  go_quiet (first | ((go_at_call 34; exact Calls.quiet_of_same (HAr.out _))) | ((go_at_call_of 35 (Value.slice pa pl pc); exact Calls.quiet_of_same (HP.out _))) | ((go_at_call_of 35 (Value.slice ta tl tc); exact Calls.quiet_of_same (HT.out _))) | ((go_at_call 36; exact Calls.quiet_of_same (HB.out _))))
  go_wp2_with fail
  go_ret
  exact ⟨by rw [HQ2.out]; first | done | rfl | simp, below_drewN Hb0.out _⟩
 cases q2
 case false =>
  go_enter Tryz.func11, Tryz.ntmps11
  go_upto_region 1 with fail
  have HQ2 : Hid (Q = 3) := Lib.hid (by rw [← HQ.out]; simp [b1d])
  go_quiet (first | ((go_at_call 34; exact Calls.quiet_of_same (HAr.out _))) | ((go_at_call_of 35 (Value.slice pa pl pc); exact Calls.quiet_of_same (HP.out _))) | ((go_at_call_of 35 (Value.slice ta tl tc); exact Calls.quiet_of_same (HT.out _))) | ((go_at_call 36; exact Calls.quiet_of_same (HB.out _))))
  go_wp2_with fail
  go_ret
  exact ⟨by rw [HQ2.out]; first | done | rfl | simp, below_drewN Hb0.out _⟩
 cases q3
 case false =>
  go_enter Tryz.func11, Tryz.ntmps11
  go_upto_region 1 with fail
  have HQ2 : Hid (Q = 3) := Lib.hid (by rw [← HQ.out]; simp [b1d])
  go_quiet (first | ((go_at_call 34; exact Calls.quiet_of_same (HAr.out _))) | ((go_at_call_of 35 (Value.slice pa pl pc); exact Calls.quiet_of_same (HP.out _))) | ((go_at_call_of 35 (Value.slice ta tl tc); exact Calls.quiet_of_same (HT.out _))) | ((go_at_call 36; exact Calls.quiet_of_same (HB.out _))))
  go_wp2_with fail
  go_ret
  exact ⟨by rw [HQ2.out]; first | done | rfl | simp, below_drewN Hb0.out _⟩
 have HQ2 : Hid (Q = if fitsK false false m.body = false then 3 else sizedL m.body) := Lib.hid (by rw [← HQ.out, b1d, HPR.out, HPR2.out, hb2, hb3]; rfl)
 clear HQ HPR HPR2
 go_enter Tryz.func11, Tryz.ntmps11
 go_upto_region 1 with fail
 go_quiet (first | ((go_at_call 34; exact Calls.quiet_of_same (HAr.out _))) | ((go_at_call_of 35 (Value.slice pa pl pc); exact Calls.quiet_of_same (HP.out _))) | ((go_at_call_of 35 (Value.slice ta tl tc); exact Calls.quiet_of_same (HT.out _))) | ((go_at_call 36; exact Calls.quiet_of_same (HB.out _))))
 obtain ⟨W1, hW1⟩ : ∃ W, W0.drewN nq = W := ⟨_, rfl⟩
 have Hb1 : Hid (Below w.heap.size w W1) := Lib.hid (by rw [← hW1]; exact below_drewN Hb0.out _)
 have HBK1 : Hid (Blk 25 w.heap.size #[.string ⟨m.name.toArray⟩, .slice pa pl pc, .slice ta tl tc, .int .i64 P, .slice ba bl bc, .int .i64 m.at_] W1) := Lib.hid (by rw [← hW1]; exact HBK.out)
 have HM1 : Hid (MtAt (fun _ => True) W1 m (.slice pa pl pc) (.slice ta tl tc) (.slice ba bl bc)) := Lib.hid (by rw [← hW1]; exact HM.out.bel (below_drewN (Below.refl _ W0) _))
 rw [hW1]
 clear hW1 hW0 HBK HM Hb0 HP HT HB HAr c0 c1 c2 c3 c4 c5 b1 b1n b1d hb2 hb3 nq
 have c4 := HBK1.out.c 4 _ rfl
 obtain ⟨l, hl⟩ : ∃ l, m.body = l := ⟨_, rfl⟩
 have HLB : Hid (l.length = bl) := Lib.hid (by rw [← hl]; exact HBL.out)
 have HTR : Hid (Tree (fun _ => True) W1 (.slice ba bl bc) l) := Lib.hid (by rw [← hl]; exact HM1.out.body)
 have HCT : Hid (cntL l ≤ 100000) := Lib.hid (by rw [← hl]; exact HCN.out)
 rw [hl] at HQ2
 clear hl HM1 HBL HCN
 go_wp2_with fail
 clear c4
 go_loopw [3] (fun y wr => ∃ k : Nat, y = .int .i64 (k : Int) ∧ k ≤ bl ∧ Hid (Below W1.heap.size W1 wr) ∧ Hid (fitsK false false l = fitsK false false (l.drop k))) (fun y _ => bl - (intOf y).toNat)
 case atStart => exact ⟨0, rfl, Nat.zero_le _, Lib.hid (Below.refl _ _), Lib.hid rfl⟩
 case round =>
  obtain ⟨k, rfl, hk, hbr, hp⟩ := hrel
  have c4 := (HBK1.out.below hbr.out HBK1.out.lt).c 4 _ rfl
  by_cases hkn : k < bl
  · have hdec : decide ((k : Int) < (bl : Int)) = true := by simpa using hkn
    have hkw : IntKind.i64.wrap ((k : Int) + 1) = (k : Int) + 1 := IntWalk.i64_in _ (by omega)
    obtain ⟨gb, off, x, ya, yc, za, zc, rfl, hx, hgb, -, ⟨e0, e1, e2, e3, e4, e5⟩, hyk, hyn⟩ := (HTR.out.bel hbr.out).nth k hkn
    have hfd := fits_drop false l k x hx
    simp only [Bool.false_and] at hfd
    have HC := rfits_any x false wr _ _ hyk hyn
    unfold ndV at HC
    obtain ⟨z, hz⟩ : ∃ z, fitsB x false = z := ⟨_, rfl⟩
    rw [hz] at HC hfd
    replace HC := Lib.hid HC
    have HF := Lib.hid (hp.out.trans hfd)
    clear hx hyk hyn hfd hz hp
    go_wp2_with fail
    refine HC.out.mono ?_; rintro e w5 ⟨rfl, hb5⟩
    have HB5 := Lib.hid (hbr.out.trans (hb5.mono hbr.out.size))
    clear hb5
    cases z with
    | false =>
     go_wp2_with fail
     go_ret
     exact ⟨by rw [HQ2.out, HF.out]; simp, Hb1.out.trans (HB5.out.mono Hb1.out.size)⟩
    | true =>
     have HF2 := Lib.hid (HF.out.trans (Bool.true_and _))
     clear HF c4 e0 e1 e2 e3 e4 e5
     go_wp2_with fail
     exact ⟨⟨k + 1, by simp, by omega, HB5, HF2⟩, by simp only [intOf]; omega⟩
  · obtain rfl : k = bl := by omega
    have hdec : decide ((k : Int) < (k : Int)) = false := by simp
    have HQ3 : Hid (Q = sizedL l) := Lib.hid (by rw [HQ2.out, hp.out, List.drop_eq_nil_of_le (by rw [HLB.out]; exact Nat.le_refl _), fitsK_nil]; simp)
    have HALL := Lib.hid (rall_any l HCT.out _ wr (HTR.out.bel hbr.out))
    clear hp HQ2
    go_wp2_with fail
    refine HALL.out.mono ?_; rintro e w6 ⟨hb6, v6, vl, rfl, hvl, hown, hnil, -⟩
    have HB6 := Lib.hid (hbr.out.trans (hb6.mono hbr.out.size))
    obtain ⟨N, hN⟩ : ∃ N, vl.length = N := ⟨_, rfl⟩
    have hNl : (allL l).length = N := by rw [← hvl, List.length_map, hN]
    have hN9 : N ≤ 100000 := by rw [← hNl, allL_len]; exact HCT.out
    obtain ⟨ro, rc, hro, hrcell⟩ : ∃ ro rc, v6 = .slice ro N rc ∧ ∀ i x, (allL l)[i]? = some x → ∃ g kv nv, ro = some ⟨g, 0, none⟩ ∧ Row w6 g (i * 6) x kv nv := by
     rcases hown.2 with ⟨rfl, h0⟩ | ⟨g, cap, cur, rfl, _⟩
     · have : vl = [] := List.eq_nil_of_length_eq_zero h0
       subst this
       refine ⟨none, 0, by rw [← hN]; rfl, fun i x hx => ?_⟩
       rw [← hvl] at hx
       simp at hx
     · refine ⟨some ⟨g, 0, none⟩, cap, by rw [hN], fun i x hx => ?_⟩
       rw [← hvl, List.getElem?_map] at hx
       obtain ⟨⟨x', kv, nv⟩, hx1, hx2⟩ := Option.map_eq_some_iff.1 hx
       obtain rfl : x' = x := hx2
       refine ⟨g, kv, nv, rfl, ?_⟩
       have H : ∀ j u, (ndC x' kv nv)[j]? = some u → w6.cell? ⟨g, i * 6 + j, none⟩ = some u := fun j u hj => by
        have hc := World.ownsRow.cells hown (g := g) rfl (i * 6 + j) u (flatN_get vl i (x', kv, nv) j u hx1 hj)
        have e : (⟨g, 0, none⟩ : Addr).add (i * 6 + j) = ⟨g, i * 6 + j, none⟩ := by unfold Addr.add; split <;> simp_all
        rw [e] at hc
        exact hc
       exact ⟨H 0 _ rfl, H 1 _ rfl, H 2 _ rfl, H 3 _ rfl, H 4 _ rfl, H 5 _ rfl⟩
    subst hro
    have HRC := Lib.hid hrcell
    have HNL := Lib.hid hNl
    clear hb6 hvl hown hnil hN hNl hrcell c4
    go_wp2_with fail
    go_loopw [5] (fun y wx => ∃ j : Nat, y = .int .i64 (j : Int) ∧ j ≤ N ∧ w6 = wx ∧ Hid ((allL l).any bigB = ((allL l).drop j).any bigB)) (fun y _ => N - (intOf y).toNat)
    case atStart => exact ⟨0, rfl, Nat.zero_le _, rfl, Lib.hid rfl⟩
    case round =>
     obtain ⟨j, rfl, hj, rfl, hp⟩ := hrel
     by_cases hjn : j < N
     · have hdecj : decide ((j : Int) < (N : Int)) = true := by simpa using hjn
       have hjw : IntKind.i64.wrap ((j : Int) + 1) = (j : Int) + 1 := IntWalk.i64_in _ (by omega)
       have hx := List.getElem?_eq_getElem (show j < (allL l).length by rw [HNL.out]; exact hjn)
       obtain ⟨x, hxx⟩ : ∃ x, (allL l)[j]'(by rw [HNL.out]; exact hjn) = x := ⟨_, rfl⟩
       rw [hxx] at hx
       obtain ⟨g, kv, nv, rfl, r0, r1, r2, r3, r4, r5⟩ := HRC.out j x hx
       have hd : ((allL l).drop j).any bigB = (bigB x || ((allL l).drop (j + 1)).any bigB) := by rw [drop_at hx, List.any_cons]
       have HPD := Lib.hid (hp.out.trans hd)
       obtain ⟨K, hK⟩ : ∃ K, x.kind = K := ⟨_, rfl⟩
       obtain ⟨sz, hsz⟩ : ∃ s, x.name.length = s := ⟨_, rfl⟩
       have hsz2 : (⟨x.name.toArray⟩ : ByteArray).size = sz := hsz
       have HBG : Hid (bigB x = ((K == 2 && decide (4096 < sz)) || (K == 3 && decide (64 < sz)))) := Lib.hid (by unfold bigB; rw [hK, hsz])
       rw [hK] at r0
       clear hx hxx hd hp hK hsz
       by_cases k2 : K = 2
       · subst k2
         by_cases h4 : 4096 < sz
         · have g4 : decide ((4096 : Int) < (sz : Int)) = true := decide_eq_true (by omega)
           have g4n : decide (4096 < sz) = true := decide_eq_true h4
           go_wp2_with fail
           go_ret
           exact ⟨by rw [HQ3.out]; unfold sizedL; rw [HPD.out, HBG.out]; simp [g4n], Hb1.out.trans (HB6.out.mono Hb1.out.size)⟩
         · have g4 : decide ((4096 : Int) < (sz : Int)) = false := decide_eq_false (by omega)
           have g4n : decide (4096 < sz) = false := decide_eq_false h4
           go_wp2_with fail
           exact ⟨⟨j + 1, by simp, by omega, by trivial, Lib.hid (by rw [HPD.out, HBG.out]; simp [g4n])⟩, by simp only [intOf]; omega⟩
       · have b2 : (K == 2) = false := beq_eq_false_iff_ne.2 k2
         by_cases k3 : K = 3
         · subst k3
           by_cases h4 : 64 < sz
           · have g4 : decide ((64 : Int) < (sz : Int)) = true := decide_eq_true (by omega)
             have g4n : decide (64 < sz) = true := decide_eq_true h4
             go_wp2_with fail
             go_ret
             exact ⟨by rw [HQ3.out]; unfold sizedL; rw [HPD.out, HBG.out]; simp [g4n], Hb1.out.trans (HB6.out.mono Hb1.out.size)⟩
           · have g4 : decide ((64 : Int) < (sz : Int)) = false := decide_eq_false (by omega)
             have g4n : decide (64 < sz) = false := decide_eq_false h4
             go_wp2_with fail
             exact ⟨⟨j + 1, by simp, by omega, by trivial, Lib.hid (by rw [HPD.out, HBG.out]; simp [g4n])⟩, by simp only [intOf]; omega⟩
         · have b3 : (K == 3) = false := beq_eq_false_iff_ne.2 k3
           go_wp2_with fail
           exact ⟨⟨j + 1, by simp, by omega, by trivial, Lib.hid (by rw [HPD.out, HBG.out]; simp [b2, b3])⟩, by simp only [intOf]; omega⟩
     · obtain rfl : j = N := by omega
       have hdecj : decide ((j : Int) < (j : Int)) = false := by simp
       have HBG : Hid ((allL l).any bigB = false) := Lib.hid (by rw [hp.out, List.drop_eq_nil_of_le (by rw [HNL.out]; exact Nat.le_refl _)]; rfl)
       clear hp
       go_wp2_with fail
       go_loopw [6] (fun y wx => ∃ i : Nat, y = .int .i64 (i : Int) ∧ i ≤ j ∧ w6 = wx ∧ Hid ((allL l).any overB = ((allL l).drop i).any overB)) (fun y _ => j - (intOf y).toNat)
       case atStart => exact ⟨0, rfl, Nat.zero_le _, rfl, Lib.hid rfl⟩
       case round =>
        obtain ⟨i, rfl, hi, rfl, hp⟩ := hrel
        by_cases hin : i < j
        · have hdeci : decide ((i : Int) < (j : Int)) = true := by simpa using hin
          have hiw : IntKind.i64.wrap ((i : Int) + 1) = (i : Int) + 1 := IntWalk.i64_in _ (by omega)
          have hx := List.getElem?_eq_getElem (show i < (allL l).length by rw [HNL.out]; exact hin)
          obtain ⟨x, hxx⟩ : ∃ x, (allL l)[i]'(by rw [HNL.out]; exact hin) = x := ⟨_, rfl⟩
          rw [hxx] at hx
          obtain ⟨g, kv, nv, rfl, r0, r1, r2, r3, r4, r5⟩ := HRC.out i x hx
          have hd : ((allL l).drop i).any overB = (overB x || ((allL l).drop (i + 1)).any overB) := by rw [drop_at hx, List.any_cons]
          have HPD := Lib.hid (hp.out.trans hd)
          have HNM := rnumber_any x.num w6
          obtain ⟨Z, hZ⟩ : ∃ K, x.num = K := ⟨_, rfl⟩
          have HOV : Hid (overB x = (decide (Z < -4611686018427387904) || decide (4611686018427387903 < Z) || Z == -4611686018427387904)) := Lib.hid (by unfold overB; rw [hZ])
          rw [hZ] at r2 HNM
          obtain ⟨z, hz⟩ : ∃ z, (decide (-4611686018427387904 ≤ Z) && decide (Z ≤ 4611686018427387903)) = z := ⟨_, rfl⟩
          rw [hz] at HNM
          replace HNM := Lib.hid HNM
          have HZ := Lib.hid hz
          clear hx hxx hd hp hZ hz
          cases z with
          | false =>
           go_wp2_with fail
           refine HNM.out.mono ?_; rintro e w7 ⟨rfl, hw7⟩; obtain rfl := hw7
           have hov : overB x = true := by
            rw [HOV.out]
            have := HZ.out
            simp at this ⊢
            omega
           have HOT := Lib.hid hov
           clear hov
           go_wp2_with fail
           go_ret
           exact ⟨by rw [HQ3.out]; unfold sizedL; rw [HBG.out, HPD.out, HOT.out]; simp, Hb1.out.trans (HB6.out.mono Hb1.out.size)⟩
          | true =>
           by_cases hm0 : Z = -4611686018427387904
           · have bm : (Z == -4611686018427387904) = true := beq_iff_eq.2 hm0
             have HOT : Hid (overB x = true) := Lib.hid (by rw [HOV.out, bm]; simp)
             clear hm0
             go_wp2_with fail
             refine HNM.out.mono ?_; rintro e w7 ⟨rfl, hw7⟩; obtain rfl := hw7
             go_wp2_with fail
             go_ret
             exact ⟨by rw [HQ3.out]; unfold sizedL; rw [HBG.out, HPD.out, HOT.out]; simp, Hb1.out.trans (HB6.out.mono Hb1.out.size)⟩
           · have bm : (Z == -4611686018427387904) = false := beq_eq_false_iff_ne.2 hm0
             have HOT : Hid (overB x = false) := Lib.hid (by
              rw [HOV.out, bm]
              have := HZ.out
              simp at this ⊢
              omega)
             clear hm0
             go_wp2_with fail
             refine HNM.out.mono ?_; rintro e w7 ⟨rfl, hw7⟩; obtain rfl := hw7
             go_wp2_with fail
             exact ⟨⟨i + 1, by simp, by omega, by trivial, Lib.hid (by rw [HPD.out, HOT.out]; simp)⟩, by simp only [intOf]; omega⟩
        · obtain rfl : i = j := by omega
          have hdeci : decide ((i : Int) < (i : Int)) = false := by simp
          have HOV : Hid ((allL l).any overB = false) := Lib.hid (by rw [hp.out, List.drop_eq_nil_of_le (by rw [HNL.out]; exact Nat.le_refl _)]; rfl)
          have c4 := (HBK1.out.below HB6.out HBK1.out.lt).c 4 _ rfl
          have HDP := rdepth_any l HCT.out _ w6 (HTR.out.bel HB6.out)
          obtain ⟨d, hd⟩ : ∃ d, depthL l = d := ⟨_, rfl⟩
          rw [hd] at HDP
          replace HDP := Lib.hid HDP
          have HD := Lib.hid hd
          clear hp hd
          by_cases hd4 : 40 < d
          · have g4 : decide ((40 : Int) < (d : Int)) = true := decide_eq_true (by omega)
            have g4n : decide (40 < d) = true := decide_eq_true hd4
            go_wp2_with fail
            refine HDP.out.mono ?_; rintro e w7 ⟨rfl, hw7⟩; obtain rfl := hw7
            go_wp2_with fail
            go_ret
            exact ⟨by rw [HQ3.out]; unfold sizedL; rw [HBG.out, HOV.out, HD.out, if_pos hd4]; simp, Hb1.out.trans (HB6.out.mono Hb1.out.size)⟩
          · have g4 : decide ((40 : Int) < (d : Int)) = false := decide_eq_false (by omega)
            have g4n : decide (40 < d) = false := decide_eq_false hd4
            go_wp2_with fail
            refine HDP.out.mono ?_; rintro e w7 ⟨rfl, hw7⟩; obtain rfl := hw7
            go_wp2_with fail
            go_ret
            exact ⟨by rw [HQ3.out]; unfold sizedL; rw [HBG.out, HOV.out, HD.out, if_neg hd4]; simp, Hb1.out.trans (HB6.out.mono Hb1.out.size)⟩
end Tr
end Go.Proofs.YtfbhokdcnjekiaaGreatDoor
