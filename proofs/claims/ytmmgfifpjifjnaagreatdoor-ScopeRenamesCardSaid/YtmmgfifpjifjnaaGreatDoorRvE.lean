/- Package scope, the walk, 12: assign (wip/gen/gen_rvwc.py prints this). · Package scope, the walk, 13: item (wip/gen/gen_rvwd.py prints this). · Package scope, the walk, 14: all that is in a list of nodes. -/
import Derived.Test.YtmmgfifpjifjnaaGreatDoorRvD
set_option linter.unusedVariables false
namespace Go.Proofs.YtmmgfifpjifjnaaGreatDoor
open Go.RowKit
namespace Rv
open Bs Sm Tr
theorem asg_form (F : List Bytes) (N : List Kn) (s : Bytes) : ∃ sb sl bs ok, knO (findK N s) = .agg #[.string sb, .int .i64 sl, .bool bs] ∧ (findK N s).isSome = ok ∧
  asgR F N s = if ((((pseu s != 0) || (s == [115, 117, 112, 101, 114])) || (ok && !bs)) || (!ok && decide (fieldF F s < 0))) = true then none else if ok = true then some (12, sl) else some (13, fieldF F s) := by
 unfold asgR
 cases h : findK N s with
 | some k =>
  refine ⟨_, _, _, _, rfl, rfl, ?_⟩
  by_cases h1 : pseu s ≠ 0 ∨ s = supS
  · rw [if_pos h1, if_pos]
    unfold supS at h1
    simpa using Or.inl h1
  rw [if_neg h1]
  unfold supS at h1
  have h2 : pseu s = 0 := Classical.byContradiction fun h => h1 (.inl h)
  have h3 : s ≠ [115, 117, 112, 101, 114] := fun h => h1 (.inr h)
  cases hb : k.set <;> simp [h2, h3, hb]
 | none =>
  refine ⟨_, _, _, _, rfl, rfl, ?_⟩
  by_cases h1 : pseu s ≠ 0 ∨ s = supS
  · rw [if_pos h1, if_pos]
    unfold supS at h1
    simpa using Or.inl h1
  rw [if_neg h1]
  unfold supS at h1
  have h2 : pseu s = 0 := Classical.byContradiction fun h => h1 (.inl h)
  have h3 : s ≠ [115, 117, 112, 101, 114] := fun h => h1 (.inr h)
  by_cases h4 : 0 ≤ fieldF F s
  · have h5 : ¬ fieldF F s < 0 := by omega
    simp [h2, h3, h4, h5]
  have h5 : fieldF F s < 0 := by omega
  simp [h2, h3, h4, h5]
section
variable {B b : Nat} {F G : List Bytes} {kv fv gv : Value} {N : List Kn} {n : Nat} {w : World}
set_option maxRecDepth 100000 in
set_option maxHeartbeats 3200000 in
theorem assign_any (x : Nd) (h6 : x.kind = 6) (hAll : AllOk x.kids) : OneOk 83 x (fun F G N n => oneR F G true x N n) := by
 intro B b F G kv fv gv ka na kc nc N n w hR hn hNn hB hT hNm
 have hlt := hR.blk.lt
 have hlo := hR.lo
 have hrl := hR.row.lt
 have hbA := alloc_bel w (.cells #[.int .i64 x.kind, .string ⟨x.name.toArray⟩, .int .i64 x.num, .slice ka x.kids.length kc, .slice na x.names.length nc, .int .i64 x.at_] NDT)
 have hKA := Blk.made (T := NDT) (cs := #[.int .i64 x.kind, .string ⟨x.name.toArray⟩, .int .i64 x.num, .slice ka x.kids.length kc, .slice na x.names.length nc, .int .i64 x.at_]) w
 have hzA : (w.alloc (.cells #[.int .i64 x.kind, .string ⟨x.name.toArray⟩, .int .i64 x.num, .slice ka x.kids.length kc, .slice na x.names.length nc, .int .i64 x.at_] NDT)).heap.size = w.heap.size + 1 := by simp
 obtain ⟨W1, halA⟩ : ∃ W, w.alloc (.cells #[.int .i64 x.kind, .string ⟨x.name.toArray⟩, .int .i64 x.num, .slice ka x.kids.length kc, .slice na x.names.length nc, .int .i64 x.at_] NDT) = W := ⟨_, rfl⟩
 rw [halA] at hbA hKA hzA
 have hbB := hbA.trans ((alloc_bel W1 (.cells #[.int .i64 0, .string ⟨#[]⟩, .int .i64 0, .int .i64 0, .int .i64 0, .slice none 0 0] IT)).mono (by omega))
 have hKB := Blk.made (T := IT) (cs := #[.int .i64 0, .string ⟨#[]⟩, .int .i64 0, .int .i64 0, .int .i64 0, .slice none 0 0]) W1
 have hKA := hKA.alloc (.cells #[.int .i64 0, .string ⟨#[]⟩, .int .i64 0, .int .i64 0, .int .i64 0, .slice none 0 0] IT)
 have hzB : (W1.alloc (.cells #[.int .i64 0, .string ⟨#[]⟩, .int .i64 0, .int .i64 0, .int .i64 0, .slice none 0 0] IT)).heap.size = W1.heap.size + 1 := by simp
 obtain ⟨W2, halB⟩ : ∃ W, W1.alloc (.cells #[.int .i64 0, .string ⟨#[]⟩, .int .i64 0, .int .i64 0, .int .i64 0, .slice none 0 0] IT) = W := ⟨_, rfl⟩
 rw [halB] at hbB hKA hKB hzB
 rw [hzA] at hKB hzB
 have hT2 := hT.kp (Kp.lt (hbB.mono hB))
 obtain ⟨E, hE⟩ : ∃ E, allR F G true x.kids N n = E := ⟨_, rfl⟩
 have HA := fun w' (hb : Below W2.heap.size W2 w') => hAll B b F G kv fv gv (.slice ka x.kids.length kc) N n w' ((hR.bel hbB).bel hb) hn hNn (by have := hb.size; omega) (hT2.kp (Kp.lt (hb.mono (by omega))))
 rw [hE] at HA
 replace HA := Lib.hid HA
 have HP := Lib.hid (fun w' => pseudo_any x.name w')
 have HF := Lib.hid (fun w' (hb : Below w.heap.size w w') => find_any x.name (hR.bel hb))
 have HG := Lib.hid (fun w' (hb : Below w.heap.size w w') => field_any x.name (hR.bel hb))
 obtain ⟨R, hRR⟩ : ∃ R, oneR F G true x N n = R := ⟨_, rfl⟩
 simp only [hRR]
 unfold oneR at hRR
 rw [if_neg (by omega), if_pos h6] at hRR
 obtain ⟨sb, sl, bs, ok, hkn, hok, has⟩ := asg_form F N x.name
 rw [has, hE] at hRR
 rw [hkn, hok] at HF
 obtain ⟨fd, hfd⟩ : ∃ y, fieldF F x.name = y := ⟨_, rfl⟩
 obtain ⟨ps, hps⟩ : ∃ y, pseu x.name = y := ⟨_, rfl⟩
 obtain ⟨pn, hpn⟩ : ∃ y, (ps != 0) = y := ⟨_, rfl⟩
 obtain ⟨sp, hsp⟩ : ∃ y, (x.name == [115, 117, 112, 101, 114]) = y := ⟨_, rfl⟩
 obtain ⟨fn, hfn⟩ : ∃ y, decide (fd < 0) = y := ⟨_, rfl⟩
 rw [hfd] at HG hRR
 rw [hps, hpn] at HP hRR
 rw [hsp, hfn] at hRR
 have c1 := hKA.c 1 _ rfl
 have HKA := Lib.hid hKA
 have HKB := Lib.hid hKB
 have HBB := Lib.hid hbB
 have HRR := Lib.hid hRR
 have HRL := Lib.hid hrl
 have HSP := Lib.hid hsp
 clear hT hT2 hAll hE hRR hfd hps hpn hkn hok has hKA hKB hbA hbB hR hrl h6 hNm hsp
 go_enter Tryz.func83, Tryz.ntmps83
 go_wp2_with fail
 refine (HF.out W2 HBB.out).mono ?_; rintro e W3 ⟨rfl, hb3⟩
 have hs3 := hb3.size
 have hbb4 := alloc_bel W3 (.cells #[.string sb, .int .i64 sl, .bool bs] KNT)
 have hmk4 := Blk.made (T := KNT) (cs := #[.string sb, .int .i64 sl, .bool bs]) W3
 have hsz4 : (W3.alloc (.cells #[.string sb, .int .i64 sl, .bool bs] KNT)).heap.size = W3.heap.size + 1 := by simp
 obtain ⟨W4, hal4⟩ : ∃ W, W3.alloc (.cells #[.string sb, .int .i64 sl, .bool bs] KNT) = W := ⟨_, rfl⟩
 rw [hal4] at hbb4 hmk4 hsz4
 have hb4 := hb3.trans (hbb4.mono hs3)
 have hka4 := HKA.out.below hb4 HKA.out.lt
 clear c1
 have c1 := hka4.c 1 _ rfl
 have HB4 := Lib.hid hb4
 have HMK4 := Lib.hid hmk4
 clear hb3 hb4 hka4 hbb4 hmk4
 go_upto_region 2 with fail
 try rw [hal4]
 clear hal4
 go_wp2_with fail
 refine (HG.out W4 (HBB.out.trans (HB4.out.mono HBB.out.size))).mono ?_; rintro e W5 ⟨rfl, hb5⟩
 have hs5 := hb5.size
 have hb05 := HB4.out.trans (hb5.mono (by omega))
 have hka5 := HKA.out.below hb05 HKA.out.lt
 have hmk5 := HMK4.out.below hb5 HMK4.out.lt
 clear c1
 have c1 := hka5.c 1 _ rfl
 have HB5 := Lib.hid hb05
 have HMK5 := Lib.hid hmk5
 clear hb5 hb05 hka5 hmk5
 go_wp2_with fail
 refine (HP.out W5).mono ?_; rintro e W6 ⟨rfl, hb6⟩
 have hs6 := hb6.size
 have hb06 := HB5.out.trans (hb6.mono (by omega))
 have hka6 := HKA.out.below hb06 HKA.out.lt
 have hkr6 := HKB.out.below hb06 HKB.out.lt
 have hkk6 := HMK5.out.below hb6 HMK5.out.lt
 clear c1
 have c1 := hka6.c 1 _ rfl
 have c3 := hka6.c 3 _ rfl
 have c5 := hka6.c 5 _ rfl
 have k1 := hkk6.c 1 _ rfl
 have k2 := hkk6.c 2 _ rfl
 have HB6 := Lib.hid hb06
 have HKA6 := Lib.hid hka6
 have HKR6 := Lib.hid hkr6
 have HKK6 := Lib.hid hkk6
 clear hb6 hb06 hka6 hkr6 hkk6 HMK4 HMK5 HF HG HP
 have hsp := HSP.out
 go_upto_region 4 with fail
 obtain ⟨bad, hbad⟩ : ∃ q, (((pn || sp) || (ok && !bs)) || (!ok && fn)) = q := ⟨_, rfl⟩
 have hR := HRR.out
 rw [hbad] at hR
 have HR2 := Lib.hid hR
 clear hR HRR
 go_cut [27] (fun s27 wx => s27 = .bool bad ∧ W6 = wx)
 case first =>
  cases pn <;> cases sp <;> cases ok <;> cases bs <;> cases fn <;> cases bad <;> first | (exfalso; revert hbad; decide) | (go_wp2_with fail; go_meet; exact ⟨rfl, rfl⟩)
 case rest =>
 obtain ⟨rfl, rfl⟩ := hcut
 cases bad with
 | true =>
  have hR := HR2.out
  rw [if_pos rfl] at hR
  simp only at hR
  subst hR
  have HB9 := Lib.hid ((HBB.out.mono hB).trans (HB6.out.mono (by omega)))
  go_wp2_with fail
  exact ⟨rfl, rfl, HB9.out⟩
 | false =>
  have hR := HR2.out
  rw [if_neg (by decide)] at hR
  have HBc := HB6
  cases ok with
  | true =>
   rw [if_pos rfl] at hR
   simp only at hR
   have HR3 := Lib.hid hR
   clear hR
   go_upto_region 7 with fail
   refine region_pk (fun c a a' w h hq => (show a.defers = [] ∧ _ from ⟨h ▸ (show a'.defers = [] ∧ _ from hq).1, (show a'.defers = [] ∧ _ from hq).2⟩)) (fun HPQ => ?_)
   refine Hd.start (fun v => v.cell? ⟨w.heap.size, 3, none⟩ = some (.slice ka x.kids.length kc) ∧ v.cell? ⟨W3.heap.size, 1, none⟩ = some (.int .i64 sl)) (by kernel_rfl) ⟨c3, k1⟩ (fun hH0 => ?_)
   refine Hd.tk 0 1 hH0 ?_ (hQ := fun c a w h => HPQ c _ _ w (put_defers a _ _) h)
   refine Hd.tk 1 6 hH0 ?_ (hQ := fun c a w h => HPQ c _ _ w (put_defers a _ _) h)
   refine Hd.tk 2 5 hH0 ?_ (hQ := fun c a w h => HPQ c _ _ w (put_defers a _ _) h)
   refine Hd.tk 3 4 hH0 ?_ (hQ := fun c a w h => HPQ c _ _ w (put_defers a _ _) h)
   refine Hd.tk 4 5 hH0 ?_ (hQ := fun c a w h => HPQ c _ _ w (put_defers a _ _) h)
   have HBd := Lib.hid (HB6.out.trans ((Below.refl _ W6).drew.mono (by omega)))
   have hdr : W6.drew.heap.size = W6.heap.size := rfl
   refine Hd.on 5 (fun K hK => ?_)
   go_simp
   have nkk : W3.heap.size ≠ b := by omega
   have gkk : some W3.heap.size ≠ kv.ownBlock := fun e => by have := (HRL.out _ e.symm).2; omega
   refine (HA.out W6.drew HBd.out).mono ?_; intro e w7 ht
   have n0 : w.heap.size ≠ b := by omega
   have n1 : w.heap.size + 1 ≠ b := by omega
   have g0 : some w.heap.size ≠ kv.ownBlock := fun e => by have := (HRL.out _ e.symm).2; omega
   have g1 : some (w.heap.size + 1) ≠ kv.ownBlock := fun e => by have := (HRL.out _ e.symm).2; omega
   cases E with
   | error y =>
    obtain ⟨rfl, hb7⟩ := ht
    have hR := HR3.out
    simp only at hR
    subst hR
    have HB9 := Lib.hid ((HBB.out.mono hB).trans ((HBd.out.mono (by omega)).trans hb7))
    exact ⟨rfl, rfl, HB9.out⟩
   | ok y =>
    obtain ⟨ks, n7⟩ := y
    obtain ⟨iv, kv7, rfl, hout, hr7, hn7, hm7⟩ := ht
    have hR := HR3.out
    simp only at hR
    subst hR
    obtain ⟨ia, ic, rfl, -, -⟩ := hout.its.form
    have hkaD : Blk NDT w.heap.size #[.int .i64 x.kind, .string ⟨x.name.toArray⟩, .int .i64 x.num, .slice ka x.kids.length kc, .slice na x.names.length nc, .int .i64 x.at_] w7 := blk_mv2 (show Blk NDT w.heap.size #[.int .i64 x.kind, .string ⟨x.name.toArray⟩, .int .i64 x.num, .slice ka x.kids.length kc, .slice na x.names.length nc, .int .i64 x.at_] W6.drew from HKA6.out.drewN 1) hm7 n0 g0
    have hkrD : Blk IT (w.heap.size + 1) #[.int .i64 0, .string ⟨#[]⟩, .int .i64 0, .int .i64 0, .int .i64 0, .slice none 0 0] w7 := blk_mv2 (show Blk IT (w.heap.size + 1) #[.int .i64 0, .string ⟨#[]⟩, .int .i64 0, .int .i64 0, .int .i64 0, .slice none 0 0] W6.drew from HKR6.out.drewN 1) hm7 n1 g1
    have hMD : Mv2 b kv.ownBlock w w7 := (Mv2.of_bel (HBB.out.trans (HBd.out.mono (by omega)))).trans (Near.refl _ _) hm7
    have hnr : ∀ j, kv7.ownBlock = some j → kv.ownBlock = some j ∨ W6.heap.size ≤ j := fun j hj => hn7 j hj
    have HKR := Lib.hid hkrD
    have hkk : Blk KNT W3.heap.size #[.string sb, .int .i64 sl, .bool bs] w7 := blk_mv2 (show Blk KNT W3.heap.size #[.string sb, .int .i64 sl, .bool bs] W6.drew from HKK6.out.drewN 1) hm7 nkk gkk
    have hc7 : w7.cell? ⟨w.heap.size, 3, none⟩ = some (.slice ka x.kids.length kc) ∧ w7.cell? ⟨W3.heap.size, 1, none⟩ = some (.int .i64 sl) := ⟨hkaD.c 3 _ rfl, hkk.c 1 _ rfl⟩
    have HC7 := Lib.hid hc7
    clear hkk hc7
    have HMD := Lib.hid hMD
    have HNR4 := Lib.hid hnr
    have HITS := Lib.hid hout.its
    have HR7 := Lib.hid hr7
    clear hout hr7 hn7 hm7 hkaD hkrD hMD hnr
    go_wp2_with fail
    refine hK.out _ _ HC7.out (fun hH1 => ?_)
    clear hK K
    try simp only [Act.put, Hd.sa, Hd.sz, Hd.ss]
    refine Hd.tk 6 7 hH1 ?_ (hQ := fun c a w h => HPQ c _ _ w (put_defers a _ _) h)
    have r0 := HKR.out.c 0 _ rfl
    have r1 := HKR.out.c 1 _ rfl
    have r2 := HKR.out.c 2 _ rfl
    have r3 := HKR.out.c 3 _ rfl
    have r4 := HKR.out.c 4 _ rfl
    have r5 := HKR.out.c 5 _ rfl
    have rf := HKR.out.fz
    clear hH1
    refine Hd.la 7 (fun K hK => ?_)
    go_simp
    refine hK.out _ _ ?_
    clear hK K
    try simp only [Act.put, Hd.sa, Hd.sz, Hd.ss]
    clear hH0
    go_wp2_with fail
    have H6 := six_item (A := W6.heap.size) (k := w.heap.size + 1) (v0 := .int .i64 12) (v1 := .string ⟨#[]⟩) (v2 := .int .i64 0) (v3 := .int .i64 sl) (v4 := .int .i64 0) (v5 := .slice ia ks.length ic) hlt hB (show w.heap.size ≤ w.heap.size + 1 by omega) (by omega) HRL.out HNR4.out HITS.out HR7.out HMD.out
    have hk6 := blk_set6 (v0 := .int .i64 12) (v1 := .string ⟨#[]⟩) (v2 := .int .i64 0) (v3 := .int .i64 sl) (v4 := .int .i64 0) (v5 := .slice ia ks.length ic) HKR.out
    obtain ⟨W6, hW6⟩ : ∃ W, (((((w7.setCell ⟨w.heap.size + 1, 0, none⟩ (.int .i64 12)).setCell ⟨w.heap.size + 1, 1, none⟩ (.string ⟨#[]⟩)).setCell ⟨w.heap.size + 1, 2, none⟩ (.int .i64 0)).setCell ⟨w.heap.size + 1, 3, none⟩ (.int .i64 sl)).setCell ⟨w.heap.size + 1, 4, none⟩ (.int .i64 0)).setCell ⟨w.heap.size + 1, 5, none⟩ (.slice ia ks.length ic) = W := ⟨_, rfl⟩
    rw [hW6] at H6 hk6 ⊢
    have z0 := hk6.c 0 _ rfl
    have z1 := hk6.c 1 _ rfl
    have z2 := hk6.c 2 _ rfl
    have z3 := hk6.c 3 _ rfl
    have z4 := hk6.c 4 _ rfl
    have z5 := hk6.c 5 _ rfl
    refine bodyPost_ret (v := .agg #[.int .i64 12, .string ⟨#[]⟩, .int .i64 0, .int .i64 sl, .int .i64 0, .slice ia ks.length ic]) (by simp [results, Tryz.results83, go_sem, z0, z1, z2, z3, z4, z5]) rfl ?_
    exact ⟨_, kv7, rfl, H6⟩
  | false =>
   rw [if_neg (by decide)] at hR
   simp only at hR
   have HR3 := Lib.hid hR
   clear hR
   go_wp2_with fail
   refine (HA.out W6 HBc.out).mono ?_; intro e w7 ht
   have n0 : w.heap.size ≠ b := by omega
   have n1 : w.heap.size + 1 ≠ b := by omega
   have g0 : some w.heap.size ≠ kv.ownBlock := fun e => by have := (HRL.out _ e.symm).2; omega
   have g1 : some (w.heap.size + 1) ≠ kv.ownBlock := fun e => by have := (HRL.out _ e.symm).2; omega
   cases E with
   | error y =>
    obtain ⟨rfl, hb7⟩ := ht
    have hR := HR3.out
    simp only at hR
    subst hR
    have HB9 := Lib.hid ((HBB.out.mono hB).trans ((HBc.out.mono (by omega)).trans hb7))
    go_wp2_with fail
    exact ⟨rfl, rfl, HB9.out⟩
   | ok y =>
    obtain ⟨ks, n7⟩ := y
    obtain ⟨iv, kv7, rfl, hout, hr7, hn7, hm7⟩ := ht
    have hR := HR3.out
    simp only at hR
    subst hR
    obtain ⟨ia, ic, rfl, -, -⟩ := hout.its.form
    have hkaD : Blk NDT w.heap.size #[.int .i64 x.kind, .string ⟨x.name.toArray⟩, .int .i64 x.num, .slice ka x.kids.length kc, .slice na x.names.length nc, .int .i64 x.at_] w7 := blk_mv2 (show Blk NDT w.heap.size #[.int .i64 x.kind, .string ⟨x.name.toArray⟩, .int .i64 x.num, .slice ka x.kids.length kc, .slice na x.names.length nc, .int .i64 x.at_] W6 from HKA6.out) hm7 n0 g0
    have hkrD : Blk IT (w.heap.size + 1) #[.int .i64 0, .string ⟨#[]⟩, .int .i64 0, .int .i64 0, .int .i64 0, .slice none 0 0] w7 := blk_mv2 (show Blk IT (w.heap.size + 1) #[.int .i64 0, .string ⟨#[]⟩, .int .i64 0, .int .i64 0, .int .i64 0, .slice none 0 0] W6 from HKR6.out) hm7 n1 g1
    have hMD : Mv2 b kv.ownBlock w w7 := (Mv2.of_bel (HBB.out.trans (HBc.out.mono (by omega)))).trans (Near.refl _ _) hm7
    have hnr : ∀ j, kv7.ownBlock = some j → kv.ownBlock = some j ∨ W6.heap.size ≤ j := fun j hj => hn7 j hj
    have HKR := Lib.hid hkrD
    have HMD := Lib.hid hMD
    have HNR4 := Lib.hid hnr
    have HITS := Lib.hid hout.its
    have HR7 := Lib.hid hr7
    clear hout hr7 hn7 hm7 hkaD hkrD hMD hnr
    have r0 := HKR.out.c 0 _ rfl
    have r1 := HKR.out.c 1 _ rfl
    have r2 := HKR.out.c 2 _ rfl
    have r3 := HKR.out.c 3 _ rfl
    have r4 := HKR.out.c 4 _ rfl
    have r5 := HKR.out.c 5 _ rfl
    have rf := HKR.out.fz
    go_wp2_with fail
    have H6 := six_item (A := W6.heap.size) (k := w.heap.size + 1) (v0 := .int .i64 13) (v1 := .string ⟨#[]⟩) (v2 := .int .i64 0) (v3 := .int .i64 fd) (v4 := .int .i64 0) (v5 := .slice ia ks.length ic) hlt hB (show w.heap.size ≤ w.heap.size + 1 by omega) (by omega) HRL.out HNR4.out HITS.out HR7.out HMD.out
    have hk6 := blk_set6 (v0 := .int .i64 13) (v1 := .string ⟨#[]⟩) (v2 := .int .i64 0) (v3 := .int .i64 fd) (v4 := .int .i64 0) (v5 := .slice ia ks.length ic) HKR.out
    obtain ⟨W6, hW6⟩ : ∃ W, (((((w7.setCell ⟨w.heap.size + 1, 0, none⟩ (.int .i64 13)).setCell ⟨w.heap.size + 1, 1, none⟩ (.string ⟨#[]⟩)).setCell ⟨w.heap.size + 1, 2, none⟩ (.int .i64 0)).setCell ⟨w.heap.size + 1, 3, none⟩ (.int .i64 fd)).setCell ⟨w.heap.size + 1, 4, none⟩ (.int .i64 0)).setCell ⟨w.heap.size + 1, 5, none⟩ (.slice ia ks.length ic) = W := ⟨_, rfl⟩
    rw [hW6] at H6 hk6 ⊢
    have z0 := hk6.c 0 _ rfl
    have z1 := hk6.c 1 _ rfl
    have z2 := hk6.c 2 _ rfl
    have z3 := hk6.c 3 _ rfl
    have z4 := hk6.c 4 _ rfl
    have z5 := hk6.c 5 _ rfl
    refine bodyPost_ret (v := .agg #[.int .i64 13, .string ⟨#[]⟩, .int .i64 0, .int .i64 fd, .int .i64 0, .slice ia ks.length ic]) (by simp [results, Tryz.results83, go_sem, z0, z1, z2, z3, z4, z5]) rfl ?_
    exact ⟨_, kv7, rfl, H6⟩
end
end Rv
end Go.Proofs.YtmmgfifpjifjnaaGreatDoor
namespace Go.Proofs.YtmmgfifpjifjnaaGreatDoor
open Go.RowKit
namespace Rv
open Bs Sm Tr
def SendOk (x : Nd) : Prop := ∀ (B b : Nat) (F G : List Bytes) (kv fv gv : Value) (ka na : Option Addr) (kc nc : Nat) (N : List Kn) (n : Nat) (w : World), Rs B b F G kv fv gv N n w → n ≤ 60 → N.length ≤ n → B ≤ w.heap.size → Tree (fun j => j < B) w (.slice ka x.kids.length kc) x.kids →
 Calls Tryz.prog 84 #[.pointer (some ⟨b, 0, none⟩), .agg #[.int .i64 x.kind, .string ⟨x.name.toArray⟩, .int .i64 x.num, .slice ka x.kids.length kc, .slice na x.names.length nc, .int .i64 x.at_], .bool true] w (ItO B b F G kv fv gv N (oneR F G true x N n) w)
section
set_option maxRecDepth 100000 in
set_option maxHeartbeats 3200000 in
theorem item_variable (x : Nd) (hk : x.kind = 5) (hF : OneOk 82 x (fun F G N n => oneR F G true x N n)) : OneOk 48 x (fun F G N n => oneR F G true x N n) := by
 intro B b F G kv fv gv ka na kc nc N n w hR hn hNn hB hT hNm
 have hlt := hR.blk.lt
 have hlo := hR.lo
 have hrl := hR.row.lt
 obtain ⟨R, hRR⟩ : ∃ R, oneR F G true x N n = R := ⟨_, rfl⟩
 simp only [hRR]
 obtain ⟨xk, hxk⟩ : ∃ k, x.kind = k := ⟨_, rfl⟩
 rw [hxk]
 have hbA := alloc_bel w (.cells #[.int .i64 xk, .string ⟨x.name.toArray⟩, .int .i64 x.num, .slice ka x.kids.length kc, .slice na x.names.length nc, .int .i64 x.at_] NDT)
 have hKA := Blk.made (T := NDT) (cs := #[.int .i64 xk, .string ⟨x.name.toArray⟩, .int .i64 x.num, .slice ka x.kids.length kc, .slice na x.names.length nc, .int .i64 x.at_]) w
 have hzA : (w.alloc (.cells #[.int .i64 xk, .string ⟨x.name.toArray⟩, .int .i64 x.num, .slice ka x.kids.length kc, .slice na x.names.length nc, .int .i64 x.at_] NDT)).heap.size = w.heap.size + 1 := by simp
 obtain ⟨W1, halA⟩ : ∃ W, w.alloc (.cells #[.int .i64 xk, .string ⟨x.name.toArray⟩, .int .i64 x.num, .slice ka x.kids.length kc, .slice na x.names.length nc, .int .i64 x.at_] NDT) = W := ⟨_, rfl⟩
 rw [halA] at hbA hKA hzA
 have hbB := hbA.trans ((alloc_bel W1 (.cells #[.int .i64 0, .string ⟨#[]⟩, .int .i64 0, .int .i64 0, .int .i64 0, .slice none 0 0] IT)).mono (by omega))
 have hKB := Blk.made (T := IT) (cs := #[.int .i64 0, .string ⟨#[]⟩, .int .i64 0, .int .i64 0, .int .i64 0, .slice none 0 0]) W1
 have hKA := hKA.alloc (.cells #[.int .i64 0, .string ⟨#[]⟩, .int .i64 0, .int .i64 0, .int .i64 0, .slice none 0 0] IT)
 have hzB : (W1.alloc (.cells #[.int .i64 0, .string ⟨#[]⟩, .int .i64 0, .int .i64 0, .int .i64 0, .slice none 0 0] IT)).heap.size = W1.heap.size + 1 := by simp
 obtain ⟨W2, halB⟩ : ∃ W, W1.alloc (.cells #[.int .i64 0, .string ⟨#[]⟩, .int .i64 0, .int .i64 0, .int .i64 0, .slice none 0 0] IT) = W := ⟨_, rfl⟩
 rw [halB] at hbB hKA hKB hzB
 rw [hzA] at hKB hzB
 have hT2 := hT.kp (Kp.lt (hbB.mono hB))
 have hNm2 := hNm.kp (Kp.lt (hbB.mono hB))
 have hR2 := hR.bel hbB
 have hB2 : B ≤ W2.heap.size := by omega
 have c0 := hKA.c 0 _ rfl
 have c1 := hKA.c 1 _ rfl
 have c2 := hKA.c 2 _ rfl
 have c3 := hKA.c 3 _ rfl
 have c4 := hKA.c 4 _ rfl
 have c5 := hKA.c 5 _ rfl
 have HKA := Lib.hid hKA
 have HKB := Lib.hid hKB
 have HBB := Lib.hid hbB
 have HRL := Lib.hid hrl
 have HT2 := Lib.hid hT2
 have HNM2 := Lib.hid hNm2
 have HR2 := Lib.hid hR2
 have HR0 := Lib.hid hR
 have hF1 := hF B b F G kv fv gv ka na kc nc N n W2 HR2.out hn hNn hB2 HT2.out HNM2.out
 simp only [hRR] at hF1
 rw [hxk] at hF1
 obtain rfl : xk = 5 := by omega
 have HF1 := Lib.hid hF1
 clear hT hT2 hNm hNm2 hKA hKB hbA hbB hR hR2 hrl hF1 hF
 go_enter Tryz.func48, Tryz.ntmps48
 have HT := Lib.hid (HF1.out)
 go_wp2_with fail
 refine HT.out.mono ?_; intro e w7 ht
 cases R with
 | error y =>
  obtain ⟨rfl, hb7⟩ := ht
  have HB9 := Lib.hid ((HBB.out.mono hB).trans hb7)
  go_wp2_with fail
  exact ⟨rfl, rfl, HB9.out⟩
 | ok y =>
  obtain ⟨i, n7⟩ := y
  obtain ⟨iv, kv7, rfl, hits, hr7, hn7, hm7⟩ := ht
  obtain ⟨ia, ic, rfl, -, -⟩ := hits.form
  have n1 : w.heap.size + 1 ≠ b := by omega
  have g1 : some (w.heap.size + 1) ≠ kv.ownBlock := fun e => by have := (HRL.out _ e.symm).2; omega
  have hkrD : Blk IT (w.heap.size + 1) #[.int .i64 0, .string ⟨#[]⟩, .int .i64 0, .int .i64 0, .int .i64 0, .slice none 0 0] w7 := blk_mv2 (show Blk IT (w.heap.size + 1) #[.int .i64 0, .string ⟨#[]⟩, .int .i64 0, .int .i64 0, .int .i64 0, .slice none 0 0] W2 from HKB.out) hm7 n1 g1
  have hMD : Mv2 b kv.ownBlock w w7 := (Mv2.of_bel (g := kv.ownBlock) (HBB.out)).trans (Near.refl _ _) hm7
  have hnr : ∀ j, kv7.ownBlock = some j → kv.ownBlock = some j ∨ W2.heap.size ≤ j := fun j hj => hn7 j hj
  have HKR := Lib.hid hkrD
  have HMD := Lib.hid hMD
  have HNR4 := Lib.hid hnr
  have HITS := Lib.hid hits
  have HR7 := Lib.hid hr7
  clear hits hr7 hn7 hm7 hkrD hMD hnr
  unfold itV
  have r0 := HKR.out.c 0 _ rfl
  have r1 := HKR.out.c 1 _ rfl
  have r2 := HKR.out.c 2 _ rfl
  have r3 := HKR.out.c 3 _ rfl
  have r4 := HKR.out.c 4 _ rfl
  have r5 := HKR.out.c 5 _ rfl
  have rf := HKR.out.fz
  go_wp2_with fail
  have H6 := six_item (A := W2.heap.size) (k := w.heap.size + 1) (v0 := .int .i64 i.kind) (v1 := .string ⟨i.name.toArray⟩) (v2 := .int .i64 i.num) (v3 := .int .i64 i.slot) (v4 := .int .i64 i.width) (v5 := .slice ia i.kids.length ic) hlt hB (show w.heap.size ≤ w.heap.size + 1 by omega) (by omega) HRL.out HNR4.out HITS.out HR7.out HMD.out
  have hk6 := blk_set6 (v0 := .int .i64 i.kind) (v1 := .string ⟨i.name.toArray⟩) (v2 := .int .i64 i.num) (v3 := .int .i64 i.slot) (v4 := .int .i64 i.width) (v5 := .slice ia i.kids.length ic) HKR.out
  obtain ⟨W6, hW6⟩ : ∃ W, (((((w7.setCell ⟨w.heap.size + 1, 0, none⟩ (.int .i64 i.kind)).setCell ⟨w.heap.size + 1, 1, none⟩ (.string ⟨i.name.toArray⟩)).setCell ⟨w.heap.size + 1, 2, none⟩ (.int .i64 i.num)).setCell ⟨w.heap.size + 1, 3, none⟩ (.int .i64 i.slot)).setCell ⟨w.heap.size + 1, 4, none⟩ (.int .i64 i.width)).setCell ⟨w.heap.size + 1, 5, none⟩ (.slice ia i.kids.length ic) = W := ⟨_, rfl⟩
  rw [hW6] at H6 hk6 ⊢
  have z0 := hk6.c 0 _ rfl
  have z1 := hk6.c 1 _ rfl
  have z2 := hk6.c 2 _ rfl
  have z3 := hk6.c 3 _ rfl
  have z4 := hk6.c 4 _ rfl
  have z5 := hk6.c 5 _ rfl
  refine bodyPost_ret (v := .agg #[.int .i64 i.kind, .string ⟨i.name.toArray⟩, .int .i64 i.num, .int .i64 i.slot, .int .i64 i.width, .slice ia i.kids.length ic]) (by simp [results, Tryz.results48, go_sem, z0, z1, z2, z3, z4, z5]) rfl ?_
  exact ⟨_, kv7, rfl, H6⟩
set_option maxRecDepth 100000 in
set_option maxHeartbeats 3200000 in
theorem item_assign (x : Nd) (hk : x.kind = 6) (hF : OneOk 83 x (fun F G N n => oneR F G true x N n)) : OneOk 48 x (fun F G N n => oneR F G true x N n) := by
 intro B b F G kv fv gv ka na kc nc N n w hR hn hNn hB hT hNm
 have hlt := hR.blk.lt
 have hlo := hR.lo
 have hrl := hR.row.lt
 obtain ⟨R, hRR⟩ : ∃ R, oneR F G true x N n = R := ⟨_, rfl⟩
 simp only [hRR]
 obtain ⟨xk, hxk⟩ : ∃ k, x.kind = k := ⟨_, rfl⟩
 rw [hxk]
 have hbA := alloc_bel w (.cells #[.int .i64 xk, .string ⟨x.name.toArray⟩, .int .i64 x.num, .slice ka x.kids.length kc, .slice na x.names.length nc, .int .i64 x.at_] NDT)
 have hKA := Blk.made (T := NDT) (cs := #[.int .i64 xk, .string ⟨x.name.toArray⟩, .int .i64 x.num, .slice ka x.kids.length kc, .slice na x.names.length nc, .int .i64 x.at_]) w
 have hzA : (w.alloc (.cells #[.int .i64 xk, .string ⟨x.name.toArray⟩, .int .i64 x.num, .slice ka x.kids.length kc, .slice na x.names.length nc, .int .i64 x.at_] NDT)).heap.size = w.heap.size + 1 := by simp
 obtain ⟨W1, halA⟩ : ∃ W, w.alloc (.cells #[.int .i64 xk, .string ⟨x.name.toArray⟩, .int .i64 x.num, .slice ka x.kids.length kc, .slice na x.names.length nc, .int .i64 x.at_] NDT) = W := ⟨_, rfl⟩
 rw [halA] at hbA hKA hzA
 have hbB := hbA.trans ((alloc_bel W1 (.cells #[.int .i64 0, .string ⟨#[]⟩, .int .i64 0, .int .i64 0, .int .i64 0, .slice none 0 0] IT)).mono (by omega))
 have hKB := Blk.made (T := IT) (cs := #[.int .i64 0, .string ⟨#[]⟩, .int .i64 0, .int .i64 0, .int .i64 0, .slice none 0 0]) W1
 have hKA := hKA.alloc (.cells #[.int .i64 0, .string ⟨#[]⟩, .int .i64 0, .int .i64 0, .int .i64 0, .slice none 0 0] IT)
 have hzB : (W1.alloc (.cells #[.int .i64 0, .string ⟨#[]⟩, .int .i64 0, .int .i64 0, .int .i64 0, .slice none 0 0] IT)).heap.size = W1.heap.size + 1 := by simp
 obtain ⟨W2, halB⟩ : ∃ W, W1.alloc (.cells #[.int .i64 0, .string ⟨#[]⟩, .int .i64 0, .int .i64 0, .int .i64 0, .slice none 0 0] IT) = W := ⟨_, rfl⟩
 rw [halB] at hbB hKA hKB hzB
 rw [hzA] at hKB hzB
 have hT2 := hT.kp (Kp.lt (hbB.mono hB))
 have hNm2 := hNm.kp (Kp.lt (hbB.mono hB))
 have hR2 := hR.bel hbB
 have hB2 : B ≤ W2.heap.size := by omega
 have c0 := hKA.c 0 _ rfl
 have c1 := hKA.c 1 _ rfl
 have c2 := hKA.c 2 _ rfl
 have c3 := hKA.c 3 _ rfl
 have c4 := hKA.c 4 _ rfl
 have c5 := hKA.c 5 _ rfl
 have HKA := Lib.hid hKA
 have HKB := Lib.hid hKB
 have HBB := Lib.hid hbB
 have HRL := Lib.hid hrl
 have HT2 := Lib.hid hT2
 have HNM2 := Lib.hid hNm2
 have HR2 := Lib.hid hR2
 have HR0 := Lib.hid hR
 have hF1 := hF B b F G kv fv gv ka na kc nc N n W2 HR2.out hn hNn hB2 HT2.out HNM2.out
 simp only [hRR] at hF1
 rw [hxk] at hF1
 obtain rfl : xk = 6 := by omega
 have HF1 := Lib.hid hF1
 clear hT hT2 hNm hNm2 hKA hKB hbA hbB hR hR2 hrl hF1 hF
 go_enter Tryz.func48, Tryz.ntmps48
 have HT := Lib.hid (HF1.out)
 go_wp2_with fail
 refine HT.out.mono ?_; intro e w7 ht
 cases R with
 | error y =>
  obtain ⟨rfl, hb7⟩ := ht
  have HB9 := Lib.hid ((HBB.out.mono hB).trans hb7)
  go_wp2_with fail
  exact ⟨rfl, rfl, HB9.out⟩
 | ok y =>
  obtain ⟨i, n7⟩ := y
  obtain ⟨iv, kv7, rfl, hits, hr7, hn7, hm7⟩ := ht
  obtain ⟨ia, ic, rfl, -, -⟩ := hits.form
  have n1 : w.heap.size + 1 ≠ b := by omega
  have g1 : some (w.heap.size + 1) ≠ kv.ownBlock := fun e => by have := (HRL.out _ e.symm).2; omega
  have hkrD : Blk IT (w.heap.size + 1) #[.int .i64 0, .string ⟨#[]⟩, .int .i64 0, .int .i64 0, .int .i64 0, .slice none 0 0] w7 := blk_mv2 (show Blk IT (w.heap.size + 1) #[.int .i64 0, .string ⟨#[]⟩, .int .i64 0, .int .i64 0, .int .i64 0, .slice none 0 0] W2 from HKB.out) hm7 n1 g1
  have hMD : Mv2 b kv.ownBlock w w7 := (Mv2.of_bel (g := kv.ownBlock) (HBB.out)).trans (Near.refl _ _) hm7
  have hnr : ∀ j, kv7.ownBlock = some j → kv.ownBlock = some j ∨ W2.heap.size ≤ j := fun j hj => hn7 j hj
  have HKR := Lib.hid hkrD
  have HMD := Lib.hid hMD
  have HNR4 := Lib.hid hnr
  have HITS := Lib.hid hits
  have HR7 := Lib.hid hr7
  clear hits hr7 hn7 hm7 hkrD hMD hnr
  unfold itV
  have r0 := HKR.out.c 0 _ rfl
  have r1 := HKR.out.c 1 _ rfl
  have r2 := HKR.out.c 2 _ rfl
  have r3 := HKR.out.c 3 _ rfl
  have r4 := HKR.out.c 4 _ rfl
  have r5 := HKR.out.c 5 _ rfl
  have rf := HKR.out.fz
  go_wp2_with fail
  have H6 := six_item (A := W2.heap.size) (k := w.heap.size + 1) (v0 := .int .i64 i.kind) (v1 := .string ⟨i.name.toArray⟩) (v2 := .int .i64 i.num) (v3 := .int .i64 i.slot) (v4 := .int .i64 i.width) (v5 := .slice ia i.kids.length ic) hlt hB (show w.heap.size ≤ w.heap.size + 1 by omega) (by omega) HRL.out HNR4.out HITS.out HR7.out HMD.out
  have hk6 := blk_set6 (v0 := .int .i64 i.kind) (v1 := .string ⟨i.name.toArray⟩) (v2 := .int .i64 i.num) (v3 := .int .i64 i.slot) (v4 := .int .i64 i.width) (v5 := .slice ia i.kids.length ic) HKR.out
  obtain ⟨W6, hW6⟩ : ∃ W, (((((w7.setCell ⟨w.heap.size + 1, 0, none⟩ (.int .i64 i.kind)).setCell ⟨w.heap.size + 1, 1, none⟩ (.string ⟨i.name.toArray⟩)).setCell ⟨w.heap.size + 1, 2, none⟩ (.int .i64 i.num)).setCell ⟨w.heap.size + 1, 3, none⟩ (.int .i64 i.slot)).setCell ⟨w.heap.size + 1, 4, none⟩ (.int .i64 i.width)).setCell ⟨w.heap.size + 1, 5, none⟩ (.slice ia i.kids.length ic) = W := ⟨_, rfl⟩
  rw [hW6] at H6 hk6 ⊢
  have z0 := hk6.c 0 _ rfl
  have z1 := hk6.c 1 _ rfl
  have z2 := hk6.c 2 _ rfl
  have z3 := hk6.c 3 _ rfl
  have z4 := hk6.c 4 _ rfl
  have z5 := hk6.c 5 _ rfl
  refine bodyPost_ret (v := .agg #[.int .i64 i.kind, .string ⟨i.name.toArray⟩, .int .i64 i.num, .int .i64 i.slot, .int .i64 i.width, .slice ia i.kids.length ic]) (by simp [results, Tryz.results48, go_sem, z0, z1, z2, z3, z4, z5]) rfl ?_
  exact ⟨_, kv7, rfl, H6⟩
set_option maxRecDepth 100000 in
set_option maxHeartbeats 3200000 in
theorem item_cascade (x : Nd) (hk : x.kind = 8) (hF : OneOk 85 x (fun F G N n => oneR F G true x N n)) : OneOk 48 x (fun F G N n => oneR F G true x N n) := by
 intro B b F G kv fv gv ka na kc nc N n w hR hn hNn hB hT hNm
 have hlt := hR.blk.lt
 have hlo := hR.lo
 have hrl := hR.row.lt
 obtain ⟨R, hRR⟩ : ∃ R, oneR F G true x N n = R := ⟨_, rfl⟩
 simp only [hRR]
 obtain ⟨xk, hxk⟩ : ∃ k, x.kind = k := ⟨_, rfl⟩
 rw [hxk]
 have hbA := alloc_bel w (.cells #[.int .i64 xk, .string ⟨x.name.toArray⟩, .int .i64 x.num, .slice ka x.kids.length kc, .slice na x.names.length nc, .int .i64 x.at_] NDT)
 have hKA := Blk.made (T := NDT) (cs := #[.int .i64 xk, .string ⟨x.name.toArray⟩, .int .i64 x.num, .slice ka x.kids.length kc, .slice na x.names.length nc, .int .i64 x.at_]) w
 have hzA : (w.alloc (.cells #[.int .i64 xk, .string ⟨x.name.toArray⟩, .int .i64 x.num, .slice ka x.kids.length kc, .slice na x.names.length nc, .int .i64 x.at_] NDT)).heap.size = w.heap.size + 1 := by simp
 obtain ⟨W1, halA⟩ : ∃ W, w.alloc (.cells #[.int .i64 xk, .string ⟨x.name.toArray⟩, .int .i64 x.num, .slice ka x.kids.length kc, .slice na x.names.length nc, .int .i64 x.at_] NDT) = W := ⟨_, rfl⟩
 rw [halA] at hbA hKA hzA
 have hbB := hbA.trans ((alloc_bel W1 (.cells #[.int .i64 0, .string ⟨#[]⟩, .int .i64 0, .int .i64 0, .int .i64 0, .slice none 0 0] IT)).mono (by omega))
 have hKB := Blk.made (T := IT) (cs := #[.int .i64 0, .string ⟨#[]⟩, .int .i64 0, .int .i64 0, .int .i64 0, .slice none 0 0]) W1
 have hKA := hKA.alloc (.cells #[.int .i64 0, .string ⟨#[]⟩, .int .i64 0, .int .i64 0, .int .i64 0, .slice none 0 0] IT)
 have hzB : (W1.alloc (.cells #[.int .i64 0, .string ⟨#[]⟩, .int .i64 0, .int .i64 0, .int .i64 0, .slice none 0 0] IT)).heap.size = W1.heap.size + 1 := by simp
 obtain ⟨W2, halB⟩ : ∃ W, W1.alloc (.cells #[.int .i64 0, .string ⟨#[]⟩, .int .i64 0, .int .i64 0, .int .i64 0, .slice none 0 0] IT) = W := ⟨_, rfl⟩
 rw [halB] at hbB hKA hKB hzB
 rw [hzA] at hKB hzB
 have hT2 := hT.kp (Kp.lt (hbB.mono hB))
 have hNm2 := hNm.kp (Kp.lt (hbB.mono hB))
 have hR2 := hR.bel hbB
 have hB2 : B ≤ W2.heap.size := by omega
 have c0 := hKA.c 0 _ rfl
 have c1 := hKA.c 1 _ rfl
 have c2 := hKA.c 2 _ rfl
 have c3 := hKA.c 3 _ rfl
 have c4 := hKA.c 4 _ rfl
 have c5 := hKA.c 5 _ rfl
 have HKA := Lib.hid hKA
 have HKB := Lib.hid hKB
 have HBB := Lib.hid hbB
 have HRL := Lib.hid hrl
 have HT2 := Lib.hid hT2
 have HNM2 := Lib.hid hNm2
 have HR2 := Lib.hid hR2
 have HR0 := Lib.hid hR
 have hF1 := hF B b F G kv fv gv ka na kc nc N n W2 HR2.out hn hNn hB2 HT2.out HNM2.out
 simp only [hRR] at hF1
 rw [hxk] at hF1
 obtain rfl : xk = 8 := by omega
 have HF1 := Lib.hid hF1
 clear hT hT2 hNm hNm2 hKA hKB hbA hbB hR hR2 hrl hF1 hF
 go_enter Tryz.func48, Tryz.ntmps48
 have HT := Lib.hid (HF1.out)
 go_wp2_with fail
 refine HT.out.mono ?_; intro e w7 ht
 cases R with
 | error y =>
  obtain ⟨rfl, hb7⟩ := ht
  have HB9 := Lib.hid ((HBB.out.mono hB).trans hb7)
  go_wp2_with fail
  exact ⟨rfl, rfl, HB9.out⟩
 | ok y =>
  obtain ⟨i, n7⟩ := y
  obtain ⟨iv, kv7, rfl, hits, hr7, hn7, hm7⟩ := ht
  obtain ⟨ia, ic, rfl, -, -⟩ := hits.form
  have n1 : w.heap.size + 1 ≠ b := by omega
  have g1 : some (w.heap.size + 1) ≠ kv.ownBlock := fun e => by have := (HRL.out _ e.symm).2; omega
  have hkrD : Blk IT (w.heap.size + 1) #[.int .i64 0, .string ⟨#[]⟩, .int .i64 0, .int .i64 0, .int .i64 0, .slice none 0 0] w7 := blk_mv2 (show Blk IT (w.heap.size + 1) #[.int .i64 0, .string ⟨#[]⟩, .int .i64 0, .int .i64 0, .int .i64 0, .slice none 0 0] W2 from HKB.out) hm7 n1 g1
  have hMD : Mv2 b kv.ownBlock w w7 := (Mv2.of_bel (g := kv.ownBlock) (HBB.out)).trans (Near.refl _ _) hm7
  have hnr : ∀ j, kv7.ownBlock = some j → kv.ownBlock = some j ∨ W2.heap.size ≤ j := fun j hj => hn7 j hj
  have HKR := Lib.hid hkrD
  have HMD := Lib.hid hMD
  have HNR4 := Lib.hid hnr
  have HITS := Lib.hid hits
  have HR7 := Lib.hid hr7
  clear hits hr7 hn7 hm7 hkrD hMD hnr
  unfold itV
  have r0 := HKR.out.c 0 _ rfl
  have r1 := HKR.out.c 1 _ rfl
  have r2 := HKR.out.c 2 _ rfl
  have r3 := HKR.out.c 3 _ rfl
  have r4 := HKR.out.c 4 _ rfl
  have r5 := HKR.out.c 5 _ rfl
  have rf := HKR.out.fz
  go_wp2_with fail
  have H6 := six_item (A := W2.heap.size) (k := w.heap.size + 1) (v0 := .int .i64 i.kind) (v1 := .string ⟨i.name.toArray⟩) (v2 := .int .i64 i.num) (v3 := .int .i64 i.slot) (v4 := .int .i64 i.width) (v5 := .slice ia i.kids.length ic) hlt hB (show w.heap.size ≤ w.heap.size + 1 by omega) (by omega) HRL.out HNR4.out HITS.out HR7.out HMD.out
  have hk6 := blk_set6 (v0 := .int .i64 i.kind) (v1 := .string ⟨i.name.toArray⟩) (v2 := .int .i64 i.num) (v3 := .int .i64 i.slot) (v4 := .int .i64 i.width) (v5 := .slice ia i.kids.length ic) HKR.out
  obtain ⟨W6, hW6⟩ : ∃ W, (((((w7.setCell ⟨w.heap.size + 1, 0, none⟩ (.int .i64 i.kind)).setCell ⟨w.heap.size + 1, 1, none⟩ (.string ⟨i.name.toArray⟩)).setCell ⟨w.heap.size + 1, 2, none⟩ (.int .i64 i.num)).setCell ⟨w.heap.size + 1, 3, none⟩ (.int .i64 i.slot)).setCell ⟨w.heap.size + 1, 4, none⟩ (.int .i64 i.width)).setCell ⟨w.heap.size + 1, 5, none⟩ (.slice ia i.kids.length ic) = W := ⟨_, rfl⟩
  rw [hW6] at H6 hk6 ⊢
  have z0 := hk6.c 0 _ rfl
  have z1 := hk6.c 1 _ rfl
  have z2 := hk6.c 2 _ rfl
  have z3 := hk6.c 3 _ rfl
  have z4 := hk6.c 4 _ rfl
  have z5 := hk6.c 5 _ rfl
  refine bodyPost_ret (v := .agg #[.int .i64 i.kind, .string ⟨i.name.toArray⟩, .int .i64 i.num, .int .i64 i.slot, .int .i64 i.width, .slice ia i.kids.length ic]) (by simp [results, Tryz.results48, go_sem, z0, z1, z2, z3, z4, z5]) rfl ?_
  exact ⟨_, kv7, rfl, H6⟩
set_option maxRecDepth 100000 in
set_option maxHeartbeats 3200000 in
theorem item_block (x : Nd) (hk : x.kind = 9) (hF : OneOk 86 x (fun F G N n => oneR F G true x N n)) : OneOk 48 x (fun F G N n => oneR F G true x N n) := by
 intro B b F G kv fv gv ka na kc nc N n w hR hn hNn hB hT hNm
 have hlt := hR.blk.lt
 have hlo := hR.lo
 have hrl := hR.row.lt
 obtain ⟨R, hRR⟩ : ∃ R, oneR F G true x N n = R := ⟨_, rfl⟩
 simp only [hRR]
 obtain ⟨xk, hxk⟩ : ∃ k, x.kind = k := ⟨_, rfl⟩
 rw [hxk]
 have hbA := alloc_bel w (.cells #[.int .i64 xk, .string ⟨x.name.toArray⟩, .int .i64 x.num, .slice ka x.kids.length kc, .slice na x.names.length nc, .int .i64 x.at_] NDT)
 have hKA := Blk.made (T := NDT) (cs := #[.int .i64 xk, .string ⟨x.name.toArray⟩, .int .i64 x.num, .slice ka x.kids.length kc, .slice na x.names.length nc, .int .i64 x.at_]) w
 have hzA : (w.alloc (.cells #[.int .i64 xk, .string ⟨x.name.toArray⟩, .int .i64 x.num, .slice ka x.kids.length kc, .slice na x.names.length nc, .int .i64 x.at_] NDT)).heap.size = w.heap.size + 1 := by simp
 obtain ⟨W1, halA⟩ : ∃ W, w.alloc (.cells #[.int .i64 xk, .string ⟨x.name.toArray⟩, .int .i64 x.num, .slice ka x.kids.length kc, .slice na x.names.length nc, .int .i64 x.at_] NDT) = W := ⟨_, rfl⟩
 rw [halA] at hbA hKA hzA
 have hbB := hbA.trans ((alloc_bel W1 (.cells #[.int .i64 0, .string ⟨#[]⟩, .int .i64 0, .int .i64 0, .int .i64 0, .slice none 0 0] IT)).mono (by omega))
 have hKB := Blk.made (T := IT) (cs := #[.int .i64 0, .string ⟨#[]⟩, .int .i64 0, .int .i64 0, .int .i64 0, .slice none 0 0]) W1
 have hKA := hKA.alloc (.cells #[.int .i64 0, .string ⟨#[]⟩, .int .i64 0, .int .i64 0, .int .i64 0, .slice none 0 0] IT)
 have hzB : (W1.alloc (.cells #[.int .i64 0, .string ⟨#[]⟩, .int .i64 0, .int .i64 0, .int .i64 0, .slice none 0 0] IT)).heap.size = W1.heap.size + 1 := by simp
 obtain ⟨W2, halB⟩ : ∃ W, W1.alloc (.cells #[.int .i64 0, .string ⟨#[]⟩, .int .i64 0, .int .i64 0, .int .i64 0, .slice none 0 0] IT) = W := ⟨_, rfl⟩
 rw [halB] at hbB hKA hKB hzB
 rw [hzA] at hKB hzB
 have hT2 := hT.kp (Kp.lt (hbB.mono hB))
 have hNm2 := hNm.kp (Kp.lt (hbB.mono hB))
 have hR2 := hR.bel hbB
 have hB2 : B ≤ W2.heap.size := by omega
 have c0 := hKA.c 0 _ rfl
 have c1 := hKA.c 1 _ rfl
 have c2 := hKA.c 2 _ rfl
 have c3 := hKA.c 3 _ rfl
 have c4 := hKA.c 4 _ rfl
 have c5 := hKA.c 5 _ rfl
 have HKA := Lib.hid hKA
 have HKB := Lib.hid hKB
 have HBB := Lib.hid hbB
 have HRL := Lib.hid hrl
 have HT2 := Lib.hid hT2
 have HNM2 := Lib.hid hNm2
 have HR2 := Lib.hid hR2
 have HR0 := Lib.hid hR
 have hF1 := hF B b F G kv fv gv ka na kc nc N n W2 HR2.out hn hNn hB2 HT2.out HNM2.out
 simp only [hRR] at hF1
 rw [hxk] at hF1
 obtain rfl : xk = 9 := by omega
 have HF1 := Lib.hid hF1
 clear hT hT2 hNm hNm2 hKA hKB hbA hbB hR hR2 hrl hF1 hF
 go_enter Tryz.func48, Tryz.ntmps48
 have HT := Lib.hid (HF1.out)
 go_wp2_with fail
 refine HT.out.mono ?_; intro e w7 ht
 cases R with
 | error y =>
  obtain ⟨rfl, hb7⟩ := ht
  have HB9 := Lib.hid ((HBB.out.mono hB).trans hb7)
  go_wp2_with fail
  exact ⟨rfl, rfl, HB9.out⟩
 | ok y =>
  obtain ⟨i, n7⟩ := y
  obtain ⟨iv, kv7, rfl, hits, hr7, hn7, hm7⟩ := ht
  obtain ⟨ia, ic, rfl, -, -⟩ := hits.form
  have n1 : w.heap.size + 1 ≠ b := by omega
  have g1 : some (w.heap.size + 1) ≠ kv.ownBlock := fun e => by have := (HRL.out _ e.symm).2; omega
  have hkrD : Blk IT (w.heap.size + 1) #[.int .i64 0, .string ⟨#[]⟩, .int .i64 0, .int .i64 0, .int .i64 0, .slice none 0 0] w7 := blk_mv2 (show Blk IT (w.heap.size + 1) #[.int .i64 0, .string ⟨#[]⟩, .int .i64 0, .int .i64 0, .int .i64 0, .slice none 0 0] W2 from HKB.out) hm7 n1 g1
  have hMD : Mv2 b kv.ownBlock w w7 := (Mv2.of_bel (g := kv.ownBlock) (HBB.out)).trans (Near.refl _ _) hm7
  have hnr : ∀ j, kv7.ownBlock = some j → kv.ownBlock = some j ∨ W2.heap.size ≤ j := fun j hj => hn7 j hj
  have HKR := Lib.hid hkrD
  have HMD := Lib.hid hMD
  have HNR4 := Lib.hid hnr
  have HITS := Lib.hid hits
  have HR7 := Lib.hid hr7
  clear hits hr7 hn7 hm7 hkrD hMD hnr
  unfold itV
  have r0 := HKR.out.c 0 _ rfl
  have r1 := HKR.out.c 1 _ rfl
  have r2 := HKR.out.c 2 _ rfl
  have r3 := HKR.out.c 3 _ rfl
  have r4 := HKR.out.c 4 _ rfl
  have r5 := HKR.out.c 5 _ rfl
  have rf := HKR.out.fz
  go_wp2_with fail
  have H6 := six_item (A := W2.heap.size) (k := w.heap.size + 1) (v0 := .int .i64 i.kind) (v1 := .string ⟨i.name.toArray⟩) (v2 := .int .i64 i.num) (v3 := .int .i64 i.slot) (v4 := .int .i64 i.width) (v5 := .slice ia i.kids.length ic) hlt hB (show w.heap.size ≤ w.heap.size + 1 by omega) (by omega) HRL.out HNR4.out HITS.out HR7.out HMD.out
  have hk6 := blk_set6 (v0 := .int .i64 i.kind) (v1 := .string ⟨i.name.toArray⟩) (v2 := .int .i64 i.num) (v3 := .int .i64 i.slot) (v4 := .int .i64 i.width) (v5 := .slice ia i.kids.length ic) HKR.out
  obtain ⟨W6, hW6⟩ : ∃ W, (((((w7.setCell ⟨w.heap.size + 1, 0, none⟩ (.int .i64 i.kind)).setCell ⟨w.heap.size + 1, 1, none⟩ (.string ⟨i.name.toArray⟩)).setCell ⟨w.heap.size + 1, 2, none⟩ (.int .i64 i.num)).setCell ⟨w.heap.size + 1, 3, none⟩ (.int .i64 i.slot)).setCell ⟨w.heap.size + 1, 4, none⟩ (.int .i64 i.width)).setCell ⟨w.heap.size + 1, 5, none⟩ (.slice ia i.kids.length ic) = W := ⟨_, rfl⟩
  rw [hW6] at H6 hk6 ⊢
  have z0 := hk6.c 0 _ rfl
  have z1 := hk6.c 1 _ rfl
  have z2 := hk6.c 2 _ rfl
  have z3 := hk6.c 3 _ rfl
  have z4 := hk6.c 4 _ rfl
  have z5 := hk6.c 5 _ rfl
  refine bodyPost_ret (v := .agg #[.int .i64 i.kind, .string ⟨i.name.toArray⟩, .int .i64 i.num, .int .i64 i.slot, .int .i64 i.width, .slice ia i.kids.length ic]) (by simp [results, Tryz.results48, go_sem, z0, z1, z2, z3, z4, z5]) rfl ?_
  exact ⟨_, kv7, rfl, H6⟩
set_option maxRecDepth 100000 in
set_option maxHeartbeats 3200000 in
theorem item_send (x : Nd) (hk : x.kind = 7) (hF : SendOk x) : OneOk 48 x (fun F G N n => oneR F G true x N n) := by
 intro B b F G kv fv gv ka na kc nc N n w hR hn hNn hB hT hNm
 have hlt := hR.blk.lt
 have hlo := hR.lo
 have hrl := hR.row.lt
 obtain ⟨R, hRR⟩ : ∃ R, oneR F G true x N n = R := ⟨_, rfl⟩
 simp only [hRR]
 obtain ⟨xk, hxk⟩ : ∃ k, x.kind = k := ⟨_, rfl⟩
 rw [hxk]
 have hbA := alloc_bel w (.cells #[.int .i64 xk, .string ⟨x.name.toArray⟩, .int .i64 x.num, .slice ka x.kids.length kc, .slice na x.names.length nc, .int .i64 x.at_] NDT)
 have hKA := Blk.made (T := NDT) (cs := #[.int .i64 xk, .string ⟨x.name.toArray⟩, .int .i64 x.num, .slice ka x.kids.length kc, .slice na x.names.length nc, .int .i64 x.at_]) w
 have hzA : (w.alloc (.cells #[.int .i64 xk, .string ⟨x.name.toArray⟩, .int .i64 x.num, .slice ka x.kids.length kc, .slice na x.names.length nc, .int .i64 x.at_] NDT)).heap.size = w.heap.size + 1 := by simp
 obtain ⟨W1, halA⟩ : ∃ W, w.alloc (.cells #[.int .i64 xk, .string ⟨x.name.toArray⟩, .int .i64 x.num, .slice ka x.kids.length kc, .slice na x.names.length nc, .int .i64 x.at_] NDT) = W := ⟨_, rfl⟩
 rw [halA] at hbA hKA hzA
 have hbB := hbA.trans ((alloc_bel W1 (.cells #[.int .i64 0, .string ⟨#[]⟩, .int .i64 0, .int .i64 0, .int .i64 0, .slice none 0 0] IT)).mono (by omega))
 have hKB := Blk.made (T := IT) (cs := #[.int .i64 0, .string ⟨#[]⟩, .int .i64 0, .int .i64 0, .int .i64 0, .slice none 0 0]) W1
 have hKA := hKA.alloc (.cells #[.int .i64 0, .string ⟨#[]⟩, .int .i64 0, .int .i64 0, .int .i64 0, .slice none 0 0] IT)
 have hzB : (W1.alloc (.cells #[.int .i64 0, .string ⟨#[]⟩, .int .i64 0, .int .i64 0, .int .i64 0, .slice none 0 0] IT)).heap.size = W1.heap.size + 1 := by simp
 obtain ⟨W2, halB⟩ : ∃ W, W1.alloc (.cells #[.int .i64 0, .string ⟨#[]⟩, .int .i64 0, .int .i64 0, .int .i64 0, .slice none 0 0] IT) = W := ⟨_, rfl⟩
 rw [halB] at hbB hKA hKB hzB
 rw [hzA] at hKB hzB
 have hT2 := hT.kp (Kp.lt (hbB.mono hB))
 have hNm2 := hNm.kp (Kp.lt (hbB.mono hB))
 have hR2 := hR.bel hbB
 have hB2 : B ≤ W2.heap.size := by omega
 have c0 := hKA.c 0 _ rfl
 have c1 := hKA.c 1 _ rfl
 have c2 := hKA.c 2 _ rfl
 have c3 := hKA.c 3 _ rfl
 have c4 := hKA.c 4 _ rfl
 have c5 := hKA.c 5 _ rfl
 have HKA := Lib.hid hKA
 have HKB := Lib.hid hKB
 have HBB := Lib.hid hbB
 have HRL := Lib.hid hrl
 have HT2 := Lib.hid hT2
 have HNM2 := Lib.hid hNm2
 have HR2 := Lib.hid hR2
 have HR0 := Lib.hid hR
 have hF1 := hF B b F G kv fv gv ka na kc nc N n W2 HR2.out hn hNn hB2 HT2.out
 simp only [hRR] at hF1
 rw [hxk] at hF1
 obtain rfl : xk = 7 := by omega
 have HF1 := Lib.hid hF1
 clear hT hT2 hNm hNm2 hKA hKB hbA hbB hR hR2 hrl hF1 hF
 go_enter Tryz.func48, Tryz.ntmps48
 have HT := Lib.hid (HF1.out)
 go_wp2_with fail
 refine HT.out.mono ?_; intro e w7 ht
 cases R with
 | error y =>
  obtain ⟨rfl, hb7⟩ := ht
  have HB9 := Lib.hid ((HBB.out.mono hB).trans hb7)
  go_wp2_with fail
  exact ⟨rfl, rfl, HB9.out⟩
 | ok y =>
  obtain ⟨i, n7⟩ := y
  obtain ⟨iv, kv7, rfl, hits, hr7, hn7, hm7⟩ := ht
  obtain ⟨ia, ic, rfl, -, -⟩ := hits.form
  have n1 : w.heap.size + 1 ≠ b := by omega
  have g1 : some (w.heap.size + 1) ≠ kv.ownBlock := fun e => by have := (HRL.out _ e.symm).2; omega
  have hkrD : Blk IT (w.heap.size + 1) #[.int .i64 0, .string ⟨#[]⟩, .int .i64 0, .int .i64 0, .int .i64 0, .slice none 0 0] w7 := blk_mv2 (show Blk IT (w.heap.size + 1) #[.int .i64 0, .string ⟨#[]⟩, .int .i64 0, .int .i64 0, .int .i64 0, .slice none 0 0] W2 from HKB.out) hm7 n1 g1
  have hMD : Mv2 b kv.ownBlock w w7 := (Mv2.of_bel (g := kv.ownBlock) (HBB.out)).trans (Near.refl _ _) hm7
  have hnr : ∀ j, kv7.ownBlock = some j → kv.ownBlock = some j ∨ W2.heap.size ≤ j := fun j hj => hn7 j hj
  have HKR := Lib.hid hkrD
  have HMD := Lib.hid hMD
  have HNR4 := Lib.hid hnr
  have HITS := Lib.hid hits
  have HR7 := Lib.hid hr7
  clear hits hr7 hn7 hm7 hkrD hMD hnr
  unfold itV
  have r0 := HKR.out.c 0 _ rfl
  have r1 := HKR.out.c 1 _ rfl
  have r2 := HKR.out.c 2 _ rfl
  have r3 := HKR.out.c 3 _ rfl
  have r4 := HKR.out.c 4 _ rfl
  have r5 := HKR.out.c 5 _ rfl
  have rf := HKR.out.fz
  go_wp2_with fail
  have H6 := six_item (A := W2.heap.size) (k := w.heap.size + 1) (v0 := .int .i64 i.kind) (v1 := .string ⟨i.name.toArray⟩) (v2 := .int .i64 i.num) (v3 := .int .i64 i.slot) (v4 := .int .i64 i.width) (v5 := .slice ia i.kids.length ic) hlt hB (show w.heap.size ≤ w.heap.size + 1 by omega) (by omega) HRL.out HNR4.out HITS.out HR7.out HMD.out
  have hk6 := blk_set6 (v0 := .int .i64 i.kind) (v1 := .string ⟨i.name.toArray⟩) (v2 := .int .i64 i.num) (v3 := .int .i64 i.slot) (v4 := .int .i64 i.width) (v5 := .slice ia i.kids.length ic) HKR.out
  obtain ⟨W6, hW6⟩ : ∃ W, (((((w7.setCell ⟨w.heap.size + 1, 0, none⟩ (.int .i64 i.kind)).setCell ⟨w.heap.size + 1, 1, none⟩ (.string ⟨i.name.toArray⟩)).setCell ⟨w.heap.size + 1, 2, none⟩ (.int .i64 i.num)).setCell ⟨w.heap.size + 1, 3, none⟩ (.int .i64 i.slot)).setCell ⟨w.heap.size + 1, 4, none⟩ (.int .i64 i.width)).setCell ⟨w.heap.size + 1, 5, none⟩ (.slice ia i.kids.length ic) = W := ⟨_, rfl⟩
  rw [hW6] at H6 hk6 ⊢
  have z0 := hk6.c 0 _ rfl
  have z1 := hk6.c 1 _ rfl
  have z2 := hk6.c 2 _ rfl
  have z3 := hk6.c 3 _ rfl
  have z4 := hk6.c 4 _ rfl
  have z5 := hk6.c 5 _ rfl
  refine bodyPost_ret (v := .agg #[.int .i64 i.kind, .string ⟨i.name.toArray⟩, .int .i64 i.num, .int .i64 i.slot, .int .i64 i.width, .slice ia i.kids.length ic]) (by simp [results, Tryz.results48, go_sem, z0, z1, z2, z3, z4, z5]) rfl ?_
  exact ⟨_, kv7, rfl, H6⟩
set_option maxRecDepth 100000 in
set_option maxHeartbeats 3200000 in
theorem item_rest (x : Nd) (hk : ¬ (1 ≤ x.kind ∧ x.kind ≤ 10)) : OneOk 48 x (fun F G N n => oneR F G true x N n) := by
 intro B b F G kv fv gv ka na kc nc N n w hR hn hNn hB hT hNm
 have hlt := hR.blk.lt
 have hlo := hR.lo
 have hrl := hR.row.lt
 obtain ⟨R, hRR⟩ : ∃ R, oneR F G true x N n = R := ⟨_, rfl⟩
 simp only [hRR]
 obtain ⟨xk, hxk⟩ : ∃ k, x.kind = k := ⟨_, rfl⟩
 rw [hxk]
 have hbA := alloc_bel w (.cells #[.int .i64 xk, .string ⟨x.name.toArray⟩, .int .i64 x.num, .slice ka x.kids.length kc, .slice na x.names.length nc, .int .i64 x.at_] NDT)
 have hKA := Blk.made (T := NDT) (cs := #[.int .i64 xk, .string ⟨x.name.toArray⟩, .int .i64 x.num, .slice ka x.kids.length kc, .slice na x.names.length nc, .int .i64 x.at_]) w
 have hzA : (w.alloc (.cells #[.int .i64 xk, .string ⟨x.name.toArray⟩, .int .i64 x.num, .slice ka x.kids.length kc, .slice na x.names.length nc, .int .i64 x.at_] NDT)).heap.size = w.heap.size + 1 := by simp
 obtain ⟨W1, halA⟩ : ∃ W, w.alloc (.cells #[.int .i64 xk, .string ⟨x.name.toArray⟩, .int .i64 x.num, .slice ka x.kids.length kc, .slice na x.names.length nc, .int .i64 x.at_] NDT) = W := ⟨_, rfl⟩
 rw [halA] at hbA hKA hzA
 have hbB := hbA.trans ((alloc_bel W1 (.cells #[.int .i64 0, .string ⟨#[]⟩, .int .i64 0, .int .i64 0, .int .i64 0, .slice none 0 0] IT)).mono (by omega))
 have hKB := Blk.made (T := IT) (cs := #[.int .i64 0, .string ⟨#[]⟩, .int .i64 0, .int .i64 0, .int .i64 0, .slice none 0 0]) W1
 have hKA := hKA.alloc (.cells #[.int .i64 0, .string ⟨#[]⟩, .int .i64 0, .int .i64 0, .int .i64 0, .slice none 0 0] IT)
 have hzB : (W1.alloc (.cells #[.int .i64 0, .string ⟨#[]⟩, .int .i64 0, .int .i64 0, .int .i64 0, .slice none 0 0] IT)).heap.size = W1.heap.size + 1 := by simp
 obtain ⟨W2, halB⟩ : ∃ W, W1.alloc (.cells #[.int .i64 0, .string ⟨#[]⟩, .int .i64 0, .int .i64 0, .int .i64 0, .slice none 0 0] IT) = W := ⟨_, rfl⟩
 rw [halB] at hbB hKA hKB hzB
 rw [hzA] at hKB hzB
 have hT2 := hT.kp (Kp.lt (hbB.mono hB))
 have hNm2 := hNm.kp (Kp.lt (hbB.mono hB))
 have hR2 := hR.bel hbB
 have hB2 : B ≤ W2.heap.size := by omega
 have c0 := hKA.c 0 _ rfl
 have c1 := hKA.c 1 _ rfl
 have c2 := hKA.c 2 _ rfl
 have c3 := hKA.c 3 _ rfl
 have c4 := hKA.c 4 _ rfl
 have c5 := hKA.c 5 _ rfl
 have HKA := Lib.hid hKA
 have HKB := Lib.hid hKB
 have HBB := Lib.hid hbB
 have HRL := Lib.hid hrl
 have HT2 := Lib.hid hT2
 have HNM2 := Lib.hid hNm2
 have HR2 := Lib.hid hR2
 have HR0 := Lib.hid hR
 have e1 : (xk == 1) = false := by rw [beq_eq_false_iff_ne]; omega
 have e2 : (xk == 2) = false := by rw [beq_eq_false_iff_ne]; omega
 have e3 : (xk == 3) = false := by rw [beq_eq_false_iff_ne]; omega
 have e4 : (xk == 4) = false := by rw [beq_eq_false_iff_ne]; omega
 have e5 : (xk == 5) = false := by rw [beq_eq_false_iff_ne]; omega
 have e6 : (xk == 6) = false := by rw [beq_eq_false_iff_ne]; omega
 have e7 : (xk == 7) = false := by rw [beq_eq_false_iff_ne]; omega
 have e8 : (xk == 8) = false := by rw [beq_eq_false_iff_ne]; omega
 have e9 : (xk == 9) = false := by rw [beq_eq_false_iff_ne]; omega
 have e10 : (xk == 10) = false := by rw [beq_eq_false_iff_ne]; omega
 unfold oneR at hRR
 rw [if_neg (by omega), if_neg (by omega), if_neg (by omega), if_neg (by omega), if_neg (by omega), if_neg (by omega), if_neg (by omega)] at hRR
 subst hRR
 clear hT hT2 hNm hNm2 hKA hKB hbA hbB hR hR2 hrl
 go_enter Tryz.func48, Tryz.ntmps48
 have HKR := HKB
 have r0 := HKR.out.c 0 _ rfl
 have r1 := HKR.out.c 1 _ rfl
 have r2 := HKR.out.c 2 _ rfl
 have r3 := HKR.out.c 3 _ rfl
 have r4 := HKR.out.c 4 _ rfl
 have r5 := HKR.out.c 5 _ rfl
 have rf := HKR.out.fz
 go_wp2_with fail
 have H6 := six_item (A := W2.heap.size) (k := w.heap.size + 1) (v0 := .int .i64 19) (v1 := .string ⟨#[]⟩) (v2 := .int .i64 0) (v3 := .int .i64 0) (v4 := .int .i64 0) (v5 := .slice none 0 0) hlt hB (show w.heap.size ≤ w.heap.size + 1 by omega) (by omega) HRL.out (fun j hj => .inl hj) (Its.nil _ _) HR2.out (Mv2.of_bel HBB.out)
 have hk6 := blk_set6 (v0 := .int .i64 19) (v1 := .string ⟨#[]⟩) (v2 := .int .i64 0) (v3 := .int .i64 0) (v4 := .int .i64 0) (v5 := .slice none 0 0) HKR.out
 obtain ⟨W6, hW6⟩ : ∃ W, (((((W2.setCell ⟨w.heap.size + 1, 0, none⟩ (.int .i64 19)).setCell ⟨w.heap.size + 1, 1, none⟩ (.string ⟨#[]⟩)).setCell ⟨w.heap.size + 1, 2, none⟩ (.int .i64 0)).setCell ⟨w.heap.size + 1, 3, none⟩ (.int .i64 0)).setCell ⟨w.heap.size + 1, 4, none⟩ (.int .i64 0)).setCell ⟨w.heap.size + 1, 5, none⟩ (.slice none 0 0) = W := ⟨_, rfl⟩
 rw [hW6] at H6 hk6 ⊢
 have z0 := hk6.c 0 _ rfl
 have z1 := hk6.c 1 _ rfl
 have z2 := hk6.c 2 _ rfl
 have z3 := hk6.c 3 _ rfl
 have z4 := hk6.c 4 _ rfl
 have z5 := hk6.c 5 _ rfl
 refine bodyPost_ret (v := .agg #[.int .i64 19, .string ⟨#[]⟩, .int .i64 0, .int .i64 0, .int .i64 0, .slice none 0 0]) (by simp [results, Tryz.results48, go_sem, z0, z1, z2, z3, z4, z5]) rfl ?_
 exact ⟨_, kv, rfl, H6⟩
set_option maxRecDepth 100000 in
set_option maxHeartbeats 3200000 in
theorem item_ret (x : Nd) (hk : x.kind = 10) (hAll : AllOk x.kids) : OneOk 48 x (fun F G N n => oneR F G true x N n) := by
 intro B b F G kv fv gv ka na kc nc N n w hR hn hNn hB hT hNm
 have hlt := hR.blk.lt
 have hlo := hR.lo
 have hrl := hR.row.lt
 obtain ⟨R, hRR⟩ : ∃ R, oneR F G true x N n = R := ⟨_, rfl⟩
 simp only [hRR]
 obtain ⟨xk, hxk⟩ : ∃ k, x.kind = k := ⟨_, rfl⟩
 rw [hxk]
 have hbA := alloc_bel w (.cells #[.int .i64 xk, .string ⟨x.name.toArray⟩, .int .i64 x.num, .slice ka x.kids.length kc, .slice na x.names.length nc, .int .i64 x.at_] NDT)
 have hKA := Blk.made (T := NDT) (cs := #[.int .i64 xk, .string ⟨x.name.toArray⟩, .int .i64 x.num, .slice ka x.kids.length kc, .slice na x.names.length nc, .int .i64 x.at_]) w
 have hzA : (w.alloc (.cells #[.int .i64 xk, .string ⟨x.name.toArray⟩, .int .i64 x.num, .slice ka x.kids.length kc, .slice na x.names.length nc, .int .i64 x.at_] NDT)).heap.size = w.heap.size + 1 := by simp
 obtain ⟨W1, halA⟩ : ∃ W, w.alloc (.cells #[.int .i64 xk, .string ⟨x.name.toArray⟩, .int .i64 x.num, .slice ka x.kids.length kc, .slice na x.names.length nc, .int .i64 x.at_] NDT) = W := ⟨_, rfl⟩
 rw [halA] at hbA hKA hzA
 have hbB := hbA.trans ((alloc_bel W1 (.cells #[.int .i64 0, .string ⟨#[]⟩, .int .i64 0, .int .i64 0, .int .i64 0, .slice none 0 0] IT)).mono (by omega))
 have hKB := Blk.made (T := IT) (cs := #[.int .i64 0, .string ⟨#[]⟩, .int .i64 0, .int .i64 0, .int .i64 0, .slice none 0 0]) W1
 have hKA := hKA.alloc (.cells #[.int .i64 0, .string ⟨#[]⟩, .int .i64 0, .int .i64 0, .int .i64 0, .slice none 0 0] IT)
 have hzB : (W1.alloc (.cells #[.int .i64 0, .string ⟨#[]⟩, .int .i64 0, .int .i64 0, .int .i64 0, .slice none 0 0] IT)).heap.size = W1.heap.size + 1 := by simp
 obtain ⟨W2, halB⟩ : ∃ W, W1.alloc (.cells #[.int .i64 0, .string ⟨#[]⟩, .int .i64 0, .int .i64 0, .int .i64 0, .slice none 0 0] IT) = W := ⟨_, rfl⟩
 rw [halB] at hbB hKA hKB hzB
 rw [hzA] at hKB hzB
 have hT2 := hT.kp (Kp.lt (hbB.mono hB))
 have hNm2 := hNm.kp (Kp.lt (hbB.mono hB))
 have hR2 := hR.bel hbB
 have hB2 : B ≤ W2.heap.size := by omega
 obtain ⟨E, hE⟩ : ∃ E, allR F G true x.kids N n = E := ⟨_, rfl⟩
 have HA := fun w' (hb : Below W2.heap.size W2 w') => hAll B b F G kv fv gv (.slice ka x.kids.length kc) N n w' (hR2.bel hb) hn hNn (by have := hb.size; omega) (hT2.kp (Kp.lt (hb.mono (by omega))))
 rw [hE] at HA
 replace HA := Lib.hid HA
 unfold oneR at hRR
 rw [if_neg (by omega), if_neg (by omega), if_neg (by omega), if_neg (by omega), if_neg (by omega), if_pos hk, hE] at hRR
 have c0 := hKA.c 0 _ rfl
 have c1 := hKA.c 1 _ rfl
 have c2 := hKA.c 2 _ rfl
 have c3 := hKA.c 3 _ rfl
 have c4 := hKA.c 4 _ rfl
 have c5 := hKA.c 5 _ rfl
 have HKA := Lib.hid hKA
 have HKB := Lib.hid hKB
 have HBB := Lib.hid hbB
 have HRL := Lib.hid hrl
 have HT2 := Lib.hid hT2
 have HNM2 := Lib.hid hNm2
 have HR2 := Lib.hid hR2
 have HR0 := Lib.hid hR
 obtain rfl : xk = 10 := by omega
 have HR3 := Lib.hid hRR
 clear hT hT2 hNm hNm2 hKA hKB hbA hbB hR hR2 hrl hRR hE hAll
 go_enter Tryz.func48, Tryz.ntmps48
 go_wp2_with fail
 refine (HA.out W2 (Below.refl _ _)).mono ?_; intro e w7 ht
 have n0 : w.heap.size ≠ b := by omega
 have n1 : w.heap.size + 1 ≠ b := by omega
 have g0 : some w.heap.size ≠ kv.ownBlock := fun e => by have := (HRL.out _ e.symm).2; omega
 have g1 : some (w.heap.size + 1) ≠ kv.ownBlock := fun e => by have := (HRL.out _ e.symm).2; omega
 cases E with
 | error y =>
  obtain ⟨rfl, hb7⟩ := ht
  have hR := HR3.out
  simp only at hR
  subst hR
  have HB9 := Lib.hid ((HBB.out.mono hB).trans (Below.trans (Below.mono (show Below W2.heap.size W2 W2 from Below.refl _ _) (by omega)) hb7))
  go_wp2_with fail
  exact ⟨rfl, rfl, HB9.out⟩
 | ok y =>
  obtain ⟨ks, n7⟩ := y
  obtain ⟨iv, kv7, rfl, hout, hr7, hn7, hm7⟩ := ht
  have hR := HR3.out
  simp only at hR
  subst hR
  obtain ⟨ia, ic, rfl, -, -⟩ := hout.its.form
  have hkaD : Blk NDT w.heap.size #[.int .i64 10, .string ⟨x.name.toArray⟩, .int .i64 x.num, .slice ka x.kids.length kc, .slice na x.names.length nc, .int .i64 x.at_] w7 := blk_mv2 (show Blk NDT w.heap.size #[.int .i64 10, .string ⟨x.name.toArray⟩, .int .i64 x.num, .slice ka x.kids.length kc, .slice na x.names.length nc, .int .i64 x.at_] W2 from HKA.out) hm7 n0 g0
  have hkrD : Blk IT (w.heap.size + 1) #[.int .i64 0, .string ⟨#[]⟩, .int .i64 0, .int .i64 0, .int .i64 0, .slice none 0 0] w7 := blk_mv2 (show Blk IT (w.heap.size + 1) #[.int .i64 0, .string ⟨#[]⟩, .int .i64 0, .int .i64 0, .int .i64 0, .slice none 0 0] W2 from HKB.out) hm7 n1 g1
  have hMD : Mv2 b kv.ownBlock w w7 := (Mv2.of_bel (g := kv.ownBlock) (HBB.out)).trans (Near.refl _ _) hm7
  have hnr : ∀ j, kv7.ownBlock = some j → kv.ownBlock = some j ∨ W2.heap.size ≤ j := fun j hj => hn7 j hj
  have HKR := Lib.hid hkrD
  have hc7 : w7.cell? ⟨w.heap.size, 0, none⟩ = some (.int .i64 10) ∧ w7.cell? ⟨w.heap.size, 1, none⟩ = some (.string ⟨x.name.toArray⟩) ∧ w7.cell? ⟨w.heap.size, 2, none⟩ = some (.int .i64 x.num) ∧ w7.cell? ⟨w.heap.size, 3, none⟩ = some (.slice ka x.kids.length kc) := ⟨hkaD.c 0 _ rfl, hkaD.c 1 _ rfl, hkaD.c 2 _ rfl, hkaD.c 3 _ rfl⟩
  have HC7 := Lib.hid hc7
  have HMD := Lib.hid hMD
  have HNR4 := Lib.hid hnr
  have HITS := Lib.hid hout.its
  have HR7 := Lib.hid hr7
  clear hout hr7 hn7 hm7 hkaD hkrD hMD hnr hc7
  have r0 := HKR.out.c 0 _ rfl
  have r1 := HKR.out.c 1 _ rfl
  have r2 := HKR.out.c 2 _ rfl
  have r3 := HKR.out.c 3 _ rfl
  have r4 := HKR.out.c 4 _ rfl
  have r5 := HKR.out.c 5 _ rfl
  have rf := HKR.out.fz
  go_wp2_with fail
  have H6 := six_item (A := W2.heap.size) (k := w.heap.size + 1) (v0 := .int .i64 18) (v1 := .string ⟨#[]⟩) (v2 := .int .i64 0) (v3 := .int .i64 0) (v4 := .int .i64 0) (v5 := .slice ia ks.length ic) hlt hB (show w.heap.size ≤ w.heap.size + 1 by omega) (by omega) HRL.out HNR4.out HITS.out HR7.out HMD.out
  have hk6 := blk_set6 (v0 := .int .i64 18) (v1 := .string ⟨#[]⟩) (v2 := .int .i64 0) (v3 := .int .i64 0) (v4 := .int .i64 0) (v5 := .slice ia ks.length ic) HKR.out
  obtain ⟨W6, hW6⟩ : ∃ W, (((((w7.setCell ⟨w.heap.size + 1, 0, none⟩ (.int .i64 18)).setCell ⟨w.heap.size + 1, 1, none⟩ (.string ⟨#[]⟩)).setCell ⟨w.heap.size + 1, 2, none⟩ (.int .i64 0)).setCell ⟨w.heap.size + 1, 3, none⟩ (.int .i64 0)).setCell ⟨w.heap.size + 1, 4, none⟩ (.int .i64 0)).setCell ⟨w.heap.size + 1, 5, none⟩ (.slice ia ks.length ic) = W := ⟨_, rfl⟩
  rw [hW6] at H6 hk6 ⊢
  have z0 := hk6.c 0 _ rfl
  have z1 := hk6.c 1 _ rfl
  have z2 := hk6.c 2 _ rfl
  have z3 := hk6.c 3 _ rfl
  have z4 := hk6.c 4 _ rfl
  have z5 := hk6.c 5 _ rfl
  refine bodyPost_ret (v := .agg #[.int .i64 18, .string ⟨#[]⟩, .int .i64 0, .int .i64 0, .int .i64 0, .slice ia ks.length ic]) (by simp [results, Tryz.results48, go_sem, z0, z1, z2, z3, z4, z5]) rfl ?_
  exact ⟨_, kv7, rfl, H6⟩
set_option maxRecDepth 100000 in
set_option maxHeartbeats 3200000 in
theorem item_lit1 (x : Nd) (hk : x.kind = 1) (hAll : AllOk x.kids) : OneOk 48 x (fun F G N n => oneR F G true x N n) := by
 intro B b F G kv fv gv ka na kc nc N n w hR hn hNn hB hT hNm
 have hlt := hR.blk.lt
 have hlo := hR.lo
 have hrl := hR.row.lt
 obtain ⟨R, hRR⟩ : ∃ R, oneR F G true x N n = R := ⟨_, rfl⟩
 simp only [hRR]
 obtain ⟨xk, hxk⟩ : ∃ k, x.kind = k := ⟨_, rfl⟩
 rw [hxk]
 have hbA := alloc_bel w (.cells #[.int .i64 xk, .string ⟨x.name.toArray⟩, .int .i64 x.num, .slice ka x.kids.length kc, .slice na x.names.length nc, .int .i64 x.at_] NDT)
 have hKA := Blk.made (T := NDT) (cs := #[.int .i64 xk, .string ⟨x.name.toArray⟩, .int .i64 x.num, .slice ka x.kids.length kc, .slice na x.names.length nc, .int .i64 x.at_]) w
 have hzA : (w.alloc (.cells #[.int .i64 xk, .string ⟨x.name.toArray⟩, .int .i64 x.num, .slice ka x.kids.length kc, .slice na x.names.length nc, .int .i64 x.at_] NDT)).heap.size = w.heap.size + 1 := by simp
 obtain ⟨W1, halA⟩ : ∃ W, w.alloc (.cells #[.int .i64 xk, .string ⟨x.name.toArray⟩, .int .i64 x.num, .slice ka x.kids.length kc, .slice na x.names.length nc, .int .i64 x.at_] NDT) = W := ⟨_, rfl⟩
 rw [halA] at hbA hKA hzA
 have hbB := hbA.trans ((alloc_bel W1 (.cells #[.int .i64 0, .string ⟨#[]⟩, .int .i64 0, .int .i64 0, .int .i64 0, .slice none 0 0] IT)).mono (by omega))
 have hKB := Blk.made (T := IT) (cs := #[.int .i64 0, .string ⟨#[]⟩, .int .i64 0, .int .i64 0, .int .i64 0, .slice none 0 0]) W1
 have hKA := hKA.alloc (.cells #[.int .i64 0, .string ⟨#[]⟩, .int .i64 0, .int .i64 0, .int .i64 0, .slice none 0 0] IT)
 have hzB : (W1.alloc (.cells #[.int .i64 0, .string ⟨#[]⟩, .int .i64 0, .int .i64 0, .int .i64 0, .slice none 0 0] IT)).heap.size = W1.heap.size + 1 := by simp
 obtain ⟨W2, halB⟩ : ∃ W, W1.alloc (.cells #[.int .i64 0, .string ⟨#[]⟩, .int .i64 0, .int .i64 0, .int .i64 0, .slice none 0 0] IT) = W := ⟨_, rfl⟩
 rw [halB] at hbB hKA hKB hzB
 rw [hzA] at hKB hzB
 have hT2 := hT.kp (Kp.lt (hbB.mono hB))
 have hNm2 := hNm.kp (Kp.lt (hbB.mono hB))
 have hR2 := hR.bel hbB
 have hB2 : B ≤ W2.heap.size := by omega
 obtain ⟨E, hE⟩ : ∃ E, allR F G true x.kids N n = E := ⟨_, rfl⟩
 have HA := fun w' (hb : Below W2.heap.size W2 w') => hAll B b F G kv fv gv (.slice ka x.kids.length kc) N n w' (hR2.bel hb) hn hNn (by have := hb.size; omega) (hT2.kp (Kp.lt (hb.mono (by omega))))
 rw [hE] at HA
 replace HA := Lib.hid HA
 unfold oneR at hRR
 rw [if_neg (by omega), if_neg (by omega), if_neg (by omega), if_neg (by omega), if_neg (by omega), if_neg (by omega), if_pos (by omega), hE] at hRR
 have c0 := hKA.c 0 _ rfl
 have c1 := hKA.c 1 _ rfl
 have c2 := hKA.c 2 _ rfl
 have c3 := hKA.c 3 _ rfl
 have c4 := hKA.c 4 _ rfl
 have c5 := hKA.c 5 _ rfl
 have HKA := Lib.hid hKA
 have HKB := Lib.hid hKB
 have HBB := Lib.hid hbB
 have HRL := Lib.hid hrl
 have HT2 := Lib.hid hT2
 have HNM2 := Lib.hid hNm2
 have HR2 := Lib.hid hR2
 have HR0 := Lib.hid hR
 rw [hxk] at hRR
 obtain rfl : xk = 1 := by omega
 have HR3 := Lib.hid hRR
 clear hT hT2 hNm hNm2 hKA hKB hbA hbB hR hR2 hrl hRR hE hAll
 go_enter Tryz.func48, Tryz.ntmps48
 go_upto_region 6 with fail
 refine region_pk (fun c a a' w h hq => (show a.defers = [] ∧ _ from ⟨h ▸ (show a'.defers = [] ∧ _ from hq).1, (show a'.defers = [] ∧ _ from hq).2⟩)) (fun HPQ => ?_)
 refine Hd.start (fun v => v.cell? ⟨w.heap.size, 0, none⟩ = some (.int .i64 1) ∧ v.cell? ⟨w.heap.size, 1, none⟩ = some (.string ⟨x.name.toArray⟩) ∧ v.cell? ⟨w.heap.size, 2, none⟩ = some (.int .i64 x.num) ∧ v.cell? ⟨w.heap.size, 3, none⟩ = some (.slice ka x.kids.length kc)) (by kernel_rfl) ⟨c0, c1, c2, c3⟩ (fun hH0 => ?_)
 refine Hd.tk 0 1 hH0 ?_ (hQ := fun c a w h => HPQ c _ _ w (put_defers a _ _) h)
 refine Hd.tk 1 2 hH0 ?_ (hQ := fun c a w h => HPQ c _ _ w (put_defers a _ _) h)
 refine Hd.tk 2 3 hH0 ?_ (hQ := fun c a w h => HPQ c _ _ w (put_defers a _ _) h)
 refine Hd.tk 3 12 hH0 ?_ (hQ := fun c a w h => HPQ c _ _ w (put_defers a _ _) h)
 refine Hd.tk 4 5 hH0 ?_ (hQ := fun c a w h => HPQ c _ _ w (put_defers a _ _) h)
 refine Hd.tk 5 12 hH0 ?_ (hQ := fun c a w h => HPQ c _ _ w (put_defers a _ _) h)
 refine Hd.tk 6 7 hH0 ?_ (hQ := fun c a w h => HPQ c _ _ w (put_defers a _ _) h)
 refine Hd.tk 7 12 hH0 ?_ (hQ := fun c a w h => HPQ c _ _ w (put_defers a _ _) h)
 refine Hd.tk 8 11 hH0 ?_ (hQ := fun c a w h => HPQ c _ _ w (put_defers a _ _) h)
 refine Hd.tk 9 10 hH0 ?_ (hQ := fun c a w h => HPQ c _ _ w (put_defers a _ _) h)
 refine Hd.tk 10 11 hH0 ?_ (hQ := fun c a w h => HPQ c _ _ w (put_defers a _ _) h)
 have hdr : W2.drew.heap.size = W2.heap.size := rfl
 refine Hd.on 11 (fun K hK => ?_)
 go_simp
 refine (HA.out W2.drew (Below.refl _ _).drew).mono ?_; intro e w7 ht
 have n0 : w.heap.size ≠ b := by omega
 have n1 : w.heap.size + 1 ≠ b := by omega
 have g0 : some w.heap.size ≠ kv.ownBlock := fun e => by have := (HRL.out _ e.symm).2; omega
 have g1 : some (w.heap.size + 1) ≠ kv.ownBlock := fun e => by have := (HRL.out _ e.symm).2; omega
 cases E with
 | error y =>
  obtain ⟨rfl, hb7⟩ := ht
  have hR := HR3.out
  simp only at hR
  subst hR
  have HB9 := Lib.hid ((HBB.out.mono hB).trans (Below.trans (Below.mono (show Below W2.heap.size W2 W2.drew from (Below.refl _ _).drew) (by omega)) hb7))

  exact ⟨rfl, rfl, HB9.out⟩
 | ok y =>
  obtain ⟨ks, n7⟩ := y
  obtain ⟨iv, kv7, rfl, hout, hr7, hn7, hm7⟩ := ht
  have hR := HR3.out
  simp only at hR
  subst hR
  obtain ⟨ia, ic, rfl, -, -⟩ := hout.its.form
  have hkaD : Blk NDT w.heap.size #[.int .i64 1, .string ⟨x.name.toArray⟩, .int .i64 x.num, .slice ka x.kids.length kc, .slice na x.names.length nc, .int .i64 x.at_] w7 := blk_mv2 (show Blk NDT w.heap.size #[.int .i64 1, .string ⟨x.name.toArray⟩, .int .i64 x.num, .slice ka x.kids.length kc, .slice na x.names.length nc, .int .i64 x.at_] W2.drew from HKA.out.drewN 1) hm7 n0 g0
  have hkrD : Blk IT (w.heap.size + 1) #[.int .i64 0, .string ⟨#[]⟩, .int .i64 0, .int .i64 0, .int .i64 0, .slice none 0 0] w7 := blk_mv2 (show Blk IT (w.heap.size + 1) #[.int .i64 0, .string ⟨#[]⟩, .int .i64 0, .int .i64 0, .int .i64 0, .slice none 0 0] W2.drew from HKB.out.drewN 1) hm7 n1 g1
  have hMD : Mv2 b kv.ownBlock w w7 := (Mv2.of_bel (g := kv.ownBlock) (bel_drewN HBB.out 1)).trans (Near.refl _ _) hm7
  have hnr : ∀ j, kv7.ownBlock = some j → kv.ownBlock = some j ∨ W2.heap.size ≤ j := fun j hj => hn7 j hj
  have HKR := Lib.hid hkrD
  have hc7 : w7.cell? ⟨w.heap.size, 0, none⟩ = some (.int .i64 1) ∧ w7.cell? ⟨w.heap.size, 1, none⟩ = some (.string ⟨x.name.toArray⟩) ∧ w7.cell? ⟨w.heap.size, 2, none⟩ = some (.int .i64 x.num) ∧ w7.cell? ⟨w.heap.size, 3, none⟩ = some (.slice ka x.kids.length kc) := ⟨hkaD.c 0 _ rfl, hkaD.c 1 _ rfl, hkaD.c 2 _ rfl, hkaD.c 3 _ rfl⟩
  have HC7 := Lib.hid hc7
  have HMD := Lib.hid hMD
  have HNR4 := Lib.hid hnr
  have HITS := Lib.hid hout.its
  have HR7 := Lib.hid hr7
  clear hout hr7 hn7 hm7 hkaD hkrD hMD hnr hc7
  go_wp2_with fail
  refine hK.out _ _ HC7.out (fun hH1 => ?_)
  clear hK K
  try simp only [Act.put, Hd.sa, Hd.sz, Hd.ss]
  refine Hd.tk 12 13 hH1 ?_ (hQ := fun c a w h => HPQ c _ _ w (put_defers a _ _) h)
  have r0 := HKR.out.c 0 _ rfl
  have r1 := HKR.out.c 1 _ rfl
  have r2 := HKR.out.c 2 _ rfl
  have r3 := HKR.out.c 3 _ rfl
  have r4 := HKR.out.c 4 _ rfl
  have r5 := HKR.out.c 5 _ rfl
  have rf := HKR.out.fz
  clear hH1
  refine Hd.la 13 (fun K hK => ?_)
  go_simp
  refine hK.out _ _ ?_
  clear hK K
  try simp only [Act.put, Hd.sa, Hd.sz, Hd.ss]
  clear hH0
  go_wp2_with fail
  rw [show IntKind.i64.wrap (IntKind.i64.wrap 2 - 1) = 1 from rfl]
  have H6 := six_item (A := W2.heap.size) (k := w.heap.size + 1) (v0 := .int .i64 1) (v1 := .string ⟨x.name.toArray⟩) (v2 := .int .i64 x.num) (v3 := .int .i64 0) (v4 := .int .i64 0) (v5 := .slice ia ks.length ic) hlt hB (show w.heap.size ≤ w.heap.size + 1 by omega) (by omega) HRL.out HNR4.out HITS.out HR7.out HMD.out
  have hk6 := blk_set6 (v0 := .int .i64 1) (v1 := .string ⟨x.name.toArray⟩) (v2 := .int .i64 x.num) (v3 := .int .i64 0) (v4 := .int .i64 0) (v5 := .slice ia ks.length ic) HKR.out
  obtain ⟨W6, hW6⟩ : ∃ W, (((((w7.setCell ⟨w.heap.size + 1, 0, none⟩ (.int .i64 1)).setCell ⟨w.heap.size + 1, 1, none⟩ (.string ⟨x.name.toArray⟩)).setCell ⟨w.heap.size + 1, 2, none⟩ (.int .i64 x.num)).setCell ⟨w.heap.size + 1, 3, none⟩ (.int .i64 0)).setCell ⟨w.heap.size + 1, 4, none⟩ (.int .i64 0)).setCell ⟨w.heap.size + 1, 5, none⟩ (.slice ia ks.length ic) = W := ⟨_, rfl⟩
  rw [hW6] at H6 hk6 ⊢
  have z0 := hk6.c 0 _ rfl
  have z1 := hk6.c 1 _ rfl
  have z2 := hk6.c 2 _ rfl
  have z3 := hk6.c 3 _ rfl
  have z4 := hk6.c 4 _ rfl
  have z5 := hk6.c 5 _ rfl
  refine bodyPost_ret (v := .agg #[.int .i64 1, .string ⟨x.name.toArray⟩, .int .i64 x.num, .int .i64 0, .int .i64 0, .slice ia ks.length ic]) (by simp [results, Tryz.results48, go_sem, z0, z1, z2, z3, z4, z5]) rfl ?_
  exact ⟨_, kv7, rfl, H6⟩
set_option maxRecDepth 100000 in
set_option maxHeartbeats 3200000 in
theorem item_lit2 (x : Nd) (hk : x.kind = 2) (hAll : AllOk x.kids) : OneOk 48 x (fun F G N n => oneR F G true x N n) := by
 intro B b F G kv fv gv ka na kc nc N n w hR hn hNn hB hT hNm
 have hlt := hR.blk.lt
 have hlo := hR.lo
 have hrl := hR.row.lt
 obtain ⟨R, hRR⟩ : ∃ R, oneR F G true x N n = R := ⟨_, rfl⟩
 simp only [hRR]
 obtain ⟨xk, hxk⟩ : ∃ k, x.kind = k := ⟨_, rfl⟩
 rw [hxk]
 have hbA := alloc_bel w (.cells #[.int .i64 xk, .string ⟨x.name.toArray⟩, .int .i64 x.num, .slice ka x.kids.length kc, .slice na x.names.length nc, .int .i64 x.at_] NDT)
 have hKA := Blk.made (T := NDT) (cs := #[.int .i64 xk, .string ⟨x.name.toArray⟩, .int .i64 x.num, .slice ka x.kids.length kc, .slice na x.names.length nc, .int .i64 x.at_]) w
 have hzA : (w.alloc (.cells #[.int .i64 xk, .string ⟨x.name.toArray⟩, .int .i64 x.num, .slice ka x.kids.length kc, .slice na x.names.length nc, .int .i64 x.at_] NDT)).heap.size = w.heap.size + 1 := by simp
 obtain ⟨W1, halA⟩ : ∃ W, w.alloc (.cells #[.int .i64 xk, .string ⟨x.name.toArray⟩, .int .i64 x.num, .slice ka x.kids.length kc, .slice na x.names.length nc, .int .i64 x.at_] NDT) = W := ⟨_, rfl⟩
 rw [halA] at hbA hKA hzA
 have hbB := hbA.trans ((alloc_bel W1 (.cells #[.int .i64 0, .string ⟨#[]⟩, .int .i64 0, .int .i64 0, .int .i64 0, .slice none 0 0] IT)).mono (by omega))
 have hKB := Blk.made (T := IT) (cs := #[.int .i64 0, .string ⟨#[]⟩, .int .i64 0, .int .i64 0, .int .i64 0, .slice none 0 0]) W1
 have hKA := hKA.alloc (.cells #[.int .i64 0, .string ⟨#[]⟩, .int .i64 0, .int .i64 0, .int .i64 0, .slice none 0 0] IT)
 have hzB : (W1.alloc (.cells #[.int .i64 0, .string ⟨#[]⟩, .int .i64 0, .int .i64 0, .int .i64 0, .slice none 0 0] IT)).heap.size = W1.heap.size + 1 := by simp
 obtain ⟨W2, halB⟩ : ∃ W, W1.alloc (.cells #[.int .i64 0, .string ⟨#[]⟩, .int .i64 0, .int .i64 0, .int .i64 0, .slice none 0 0] IT) = W := ⟨_, rfl⟩
 rw [halB] at hbB hKA hKB hzB
 rw [hzA] at hKB hzB
 have hT2 := hT.kp (Kp.lt (hbB.mono hB))
 have hNm2 := hNm.kp (Kp.lt (hbB.mono hB))
 have hR2 := hR.bel hbB
 have hB2 : B ≤ W2.heap.size := by omega
 obtain ⟨E, hE⟩ : ∃ E, allR F G true x.kids N n = E := ⟨_, rfl⟩
 have HA := fun w' (hb : Below W2.heap.size W2 w') => hAll B b F G kv fv gv (.slice ka x.kids.length kc) N n w' (hR2.bel hb) hn hNn (by have := hb.size; omega) (hT2.kp (Kp.lt (hb.mono (by omega))))
 rw [hE] at HA
 replace HA := Lib.hid HA
 unfold oneR at hRR
 rw [if_neg (by omega), if_neg (by omega), if_neg (by omega), if_neg (by omega), if_neg (by omega), if_neg (by omega), if_pos (by omega), hE] at hRR
 have c0 := hKA.c 0 _ rfl
 have c1 := hKA.c 1 _ rfl
 have c2 := hKA.c 2 _ rfl
 have c3 := hKA.c 3 _ rfl
 have c4 := hKA.c 4 _ rfl
 have c5 := hKA.c 5 _ rfl
 have HKA := Lib.hid hKA
 have HKB := Lib.hid hKB
 have HBB := Lib.hid hbB
 have HRL := Lib.hid hrl
 have HT2 := Lib.hid hT2
 have HNM2 := Lib.hid hNm2
 have HR2 := Lib.hid hR2
 have HR0 := Lib.hid hR
 rw [hxk] at hRR
 obtain rfl : xk = 2 := by omega
 have HR3 := Lib.hid hRR
 clear hT hT2 hNm hNm2 hKA hKB hbA hbB hR hR2 hrl hRR hE hAll
 go_enter Tryz.func48, Tryz.ntmps48
 go_upto_region 6 with fail
 refine region_pk (fun c a a' w h hq => (show a.defers = [] ∧ _ from ⟨h ▸ (show a'.defers = [] ∧ _ from hq).1, (show a'.defers = [] ∧ _ from hq).2⟩)) (fun HPQ => ?_)
 refine Hd.start (fun v => v.cell? ⟨w.heap.size, 0, none⟩ = some (.int .i64 2) ∧ v.cell? ⟨w.heap.size, 1, none⟩ = some (.string ⟨x.name.toArray⟩) ∧ v.cell? ⟨w.heap.size, 2, none⟩ = some (.int .i64 x.num) ∧ v.cell? ⟨w.heap.size, 3, none⟩ = some (.slice ka x.kids.length kc)) (by kernel_rfl) ⟨c0, c1, c2, c3⟩ (fun hH0 => ?_)
 refine Hd.tk 0 1 hH0 ?_ (hQ := fun c a w h => HPQ c _ _ w (put_defers a _ _) h)
 refine Hd.tk 1 2 hH0 ?_ (hQ := fun c a w h => HPQ c _ _ w (put_defers a _ _) h)
 refine Hd.tk 2 3 hH0 ?_ (hQ := fun c a w h => HPQ c _ _ w (put_defers a _ _) h)
 refine Hd.tk 3 12 hH0 ?_ (hQ := fun c a w h => HPQ c _ _ w (put_defers a _ _) h)
 refine Hd.tk 4 5 hH0 ?_ (hQ := fun c a w h => HPQ c _ _ w (put_defers a _ _) h)
 refine Hd.tk 5 12 hH0 ?_ (hQ := fun c a w h => HPQ c _ _ w (put_defers a _ _) h)
 refine Hd.tk 6 7 hH0 ?_ (hQ := fun c a w h => HPQ c _ _ w (put_defers a _ _) h)
 refine Hd.tk 7 12 hH0 ?_ (hQ := fun c a w h => HPQ c _ _ w (put_defers a _ _) h)
 refine Hd.tk 8 11 hH0 ?_ (hQ := fun c a w h => HPQ c _ _ w (put_defers a _ _) h)
 refine Hd.tk 9 10 hH0 ?_ (hQ := fun c a w h => HPQ c _ _ w (put_defers a _ _) h)
 refine Hd.tk 10 11 hH0 ?_ (hQ := fun c a w h => HPQ c _ _ w (put_defers a _ _) h)
 have hdr : W2.drew.heap.size = W2.heap.size := rfl
 refine Hd.on 11 (fun K hK => ?_)
 go_simp
 refine (HA.out W2.drew (Below.refl _ _).drew).mono ?_; intro e w7 ht
 have n0 : w.heap.size ≠ b := by omega
 have n1 : w.heap.size + 1 ≠ b := by omega
 have g0 : some w.heap.size ≠ kv.ownBlock := fun e => by have := (HRL.out _ e.symm).2; omega
 have g1 : some (w.heap.size + 1) ≠ kv.ownBlock := fun e => by have := (HRL.out _ e.symm).2; omega
 cases E with
 | error y =>
  obtain ⟨rfl, hb7⟩ := ht
  have hR := HR3.out
  simp only at hR
  subst hR
  have HB9 := Lib.hid ((HBB.out.mono hB).trans (Below.trans (Below.mono (show Below W2.heap.size W2 W2.drew from (Below.refl _ _).drew) (by omega)) hb7))

  exact ⟨rfl, rfl, HB9.out⟩
 | ok y =>
  obtain ⟨ks, n7⟩ := y
  obtain ⟨iv, kv7, rfl, hout, hr7, hn7, hm7⟩ := ht
  have hR := HR3.out
  simp only at hR
  subst hR
  obtain ⟨ia, ic, rfl, -, -⟩ := hout.its.form
  have hkaD : Blk NDT w.heap.size #[.int .i64 2, .string ⟨x.name.toArray⟩, .int .i64 x.num, .slice ka x.kids.length kc, .slice na x.names.length nc, .int .i64 x.at_] w7 := blk_mv2 (show Blk NDT w.heap.size #[.int .i64 2, .string ⟨x.name.toArray⟩, .int .i64 x.num, .slice ka x.kids.length kc, .slice na x.names.length nc, .int .i64 x.at_] W2.drew from HKA.out.drewN 1) hm7 n0 g0
  have hkrD : Blk IT (w.heap.size + 1) #[.int .i64 0, .string ⟨#[]⟩, .int .i64 0, .int .i64 0, .int .i64 0, .slice none 0 0] w7 := blk_mv2 (show Blk IT (w.heap.size + 1) #[.int .i64 0, .string ⟨#[]⟩, .int .i64 0, .int .i64 0, .int .i64 0, .slice none 0 0] W2.drew from HKB.out.drewN 1) hm7 n1 g1
  have hMD : Mv2 b kv.ownBlock w w7 := (Mv2.of_bel (g := kv.ownBlock) (bel_drewN HBB.out 1)).trans (Near.refl _ _) hm7
  have hnr : ∀ j, kv7.ownBlock = some j → kv.ownBlock = some j ∨ W2.heap.size ≤ j := fun j hj => hn7 j hj
  have HKR := Lib.hid hkrD
  have hc7 : w7.cell? ⟨w.heap.size, 0, none⟩ = some (.int .i64 2) ∧ w7.cell? ⟨w.heap.size, 1, none⟩ = some (.string ⟨x.name.toArray⟩) ∧ w7.cell? ⟨w.heap.size, 2, none⟩ = some (.int .i64 x.num) ∧ w7.cell? ⟨w.heap.size, 3, none⟩ = some (.slice ka x.kids.length kc) := ⟨hkaD.c 0 _ rfl, hkaD.c 1 _ rfl, hkaD.c 2 _ rfl, hkaD.c 3 _ rfl⟩
  have HC7 := Lib.hid hc7
  have HMD := Lib.hid hMD
  have HNR4 := Lib.hid hnr
  have HITS := Lib.hid hout.its
  have HR7 := Lib.hid hr7
  clear hout hr7 hn7 hm7 hkaD hkrD hMD hnr hc7
  go_wp2_with fail
  refine hK.out _ _ HC7.out (fun hH1 => ?_)
  clear hK K
  try simp only [Act.put, Hd.sa, Hd.sz, Hd.ss]
  refine Hd.tk 12 13 hH1 ?_ (hQ := fun c a w h => HPQ c _ _ w (put_defers a _ _) h)
  have r0 := HKR.out.c 0 _ rfl
  have r1 := HKR.out.c 1 _ rfl
  have r2 := HKR.out.c 2 _ rfl
  have r3 := HKR.out.c 3 _ rfl
  have r4 := HKR.out.c 4 _ rfl
  have r5 := HKR.out.c 5 _ rfl
  have rf := HKR.out.fz
  clear hH1
  refine Hd.la 13 (fun K hK => ?_)
  go_simp
  refine hK.out _ _ ?_
  clear hK K
  try simp only [Act.put, Hd.sa, Hd.sz, Hd.ss]
  clear hH0
  go_wp2_with fail
  rw [show IntKind.i64.wrap (IntKind.i64.wrap 3 - 1) = 2 from rfl]
  have H6 := six_item (A := W2.heap.size) (k := w.heap.size + 1) (v0 := .int .i64 2) (v1 := .string ⟨x.name.toArray⟩) (v2 := .int .i64 x.num) (v3 := .int .i64 0) (v4 := .int .i64 0) (v5 := .slice ia ks.length ic) hlt hB (show w.heap.size ≤ w.heap.size + 1 by omega) (by omega) HRL.out HNR4.out HITS.out HR7.out HMD.out
  have hk6 := blk_set6 (v0 := .int .i64 2) (v1 := .string ⟨x.name.toArray⟩) (v2 := .int .i64 x.num) (v3 := .int .i64 0) (v4 := .int .i64 0) (v5 := .slice ia ks.length ic) HKR.out
  obtain ⟨W6, hW6⟩ : ∃ W, (((((w7.setCell ⟨w.heap.size + 1, 0, none⟩ (.int .i64 2)).setCell ⟨w.heap.size + 1, 1, none⟩ (.string ⟨x.name.toArray⟩)).setCell ⟨w.heap.size + 1, 2, none⟩ (.int .i64 x.num)).setCell ⟨w.heap.size + 1, 3, none⟩ (.int .i64 0)).setCell ⟨w.heap.size + 1, 4, none⟩ (.int .i64 0)).setCell ⟨w.heap.size + 1, 5, none⟩ (.slice ia ks.length ic) = W := ⟨_, rfl⟩
  rw [hW6] at H6 hk6 ⊢
  have z0 := hk6.c 0 _ rfl
  have z1 := hk6.c 1 _ rfl
  have z2 := hk6.c 2 _ rfl
  have z3 := hk6.c 3 _ rfl
  have z4 := hk6.c 4 _ rfl
  have z5 := hk6.c 5 _ rfl
  refine bodyPost_ret (v := .agg #[.int .i64 2, .string ⟨x.name.toArray⟩, .int .i64 x.num, .int .i64 0, .int .i64 0, .slice ia ks.length ic]) (by simp [results, Tryz.results48, go_sem, z0, z1, z2, z3, z4, z5]) rfl ?_
  exact ⟨_, kv7, rfl, H6⟩
set_option maxRecDepth 100000 in
set_option maxHeartbeats 3200000 in
theorem item_lit3 (x : Nd) (hk : x.kind = 3) (hAll : AllOk x.kids) : OneOk 48 x (fun F G N n => oneR F G true x N n) := by
 intro B b F G kv fv gv ka na kc nc N n w hR hn hNn hB hT hNm
 have hlt := hR.blk.lt
 have hlo := hR.lo
 have hrl := hR.row.lt
 obtain ⟨R, hRR⟩ : ∃ R, oneR F G true x N n = R := ⟨_, rfl⟩
 simp only [hRR]
 obtain ⟨xk, hxk⟩ : ∃ k, x.kind = k := ⟨_, rfl⟩
 rw [hxk]
 have hbA := alloc_bel w (.cells #[.int .i64 xk, .string ⟨x.name.toArray⟩, .int .i64 x.num, .slice ka x.kids.length kc, .slice na x.names.length nc, .int .i64 x.at_] NDT)
 have hKA := Blk.made (T := NDT) (cs := #[.int .i64 xk, .string ⟨x.name.toArray⟩, .int .i64 x.num, .slice ka x.kids.length kc, .slice na x.names.length nc, .int .i64 x.at_]) w
 have hzA : (w.alloc (.cells #[.int .i64 xk, .string ⟨x.name.toArray⟩, .int .i64 x.num, .slice ka x.kids.length kc, .slice na x.names.length nc, .int .i64 x.at_] NDT)).heap.size = w.heap.size + 1 := by simp
 obtain ⟨W1, halA⟩ : ∃ W, w.alloc (.cells #[.int .i64 xk, .string ⟨x.name.toArray⟩, .int .i64 x.num, .slice ka x.kids.length kc, .slice na x.names.length nc, .int .i64 x.at_] NDT) = W := ⟨_, rfl⟩
 rw [halA] at hbA hKA hzA
 have hbB := hbA.trans ((alloc_bel W1 (.cells #[.int .i64 0, .string ⟨#[]⟩, .int .i64 0, .int .i64 0, .int .i64 0, .slice none 0 0] IT)).mono (by omega))
 have hKB := Blk.made (T := IT) (cs := #[.int .i64 0, .string ⟨#[]⟩, .int .i64 0, .int .i64 0, .int .i64 0, .slice none 0 0]) W1
 have hKA := hKA.alloc (.cells #[.int .i64 0, .string ⟨#[]⟩, .int .i64 0, .int .i64 0, .int .i64 0, .slice none 0 0] IT)
 have hzB : (W1.alloc (.cells #[.int .i64 0, .string ⟨#[]⟩, .int .i64 0, .int .i64 0, .int .i64 0, .slice none 0 0] IT)).heap.size = W1.heap.size + 1 := by simp
 obtain ⟨W2, halB⟩ : ∃ W, W1.alloc (.cells #[.int .i64 0, .string ⟨#[]⟩, .int .i64 0, .int .i64 0, .int .i64 0, .slice none 0 0] IT) = W := ⟨_, rfl⟩
 rw [halB] at hbB hKA hKB hzB
 rw [hzA] at hKB hzB
 have hT2 := hT.kp (Kp.lt (hbB.mono hB))
 have hNm2 := hNm.kp (Kp.lt (hbB.mono hB))
 have hR2 := hR.bel hbB
 have hB2 : B ≤ W2.heap.size := by omega
 obtain ⟨E, hE⟩ : ∃ E, allR F G true x.kids N n = E := ⟨_, rfl⟩
 have HA := fun w' (hb : Below W2.heap.size W2 w') => hAll B b F G kv fv gv (.slice ka x.kids.length kc) N n w' (hR2.bel hb) hn hNn (by have := hb.size; omega) (hT2.kp (Kp.lt (hb.mono (by omega))))
 rw [hE] at HA
 replace HA := Lib.hid HA
 unfold oneR at hRR
 rw [if_neg (by omega), if_neg (by omega), if_neg (by omega), if_neg (by omega), if_neg (by omega), if_neg (by omega), if_pos (by omega), hE] at hRR
 have c0 := hKA.c 0 _ rfl
 have c1 := hKA.c 1 _ rfl
 have c2 := hKA.c 2 _ rfl
 have c3 := hKA.c 3 _ rfl
 have c4 := hKA.c 4 _ rfl
 have c5 := hKA.c 5 _ rfl
 have HKA := Lib.hid hKA
 have HKB := Lib.hid hKB
 have HBB := Lib.hid hbB
 have HRL := Lib.hid hrl
 have HT2 := Lib.hid hT2
 have HNM2 := Lib.hid hNm2
 have HR2 := Lib.hid hR2
 have HR0 := Lib.hid hR
 rw [hxk] at hRR
 obtain rfl : xk = 3 := by omega
 have HR3 := Lib.hid hRR
 clear hT hT2 hNm hNm2 hKA hKB hbA hbB hR hR2 hrl hRR hE hAll
 go_enter Tryz.func48, Tryz.ntmps48
 go_upto_region 6 with fail
 refine region_pk (fun c a a' w h hq => (show a.defers = [] ∧ _ from ⟨h ▸ (show a'.defers = [] ∧ _ from hq).1, (show a'.defers = [] ∧ _ from hq).2⟩)) (fun HPQ => ?_)
 refine Hd.start (fun v => v.cell? ⟨w.heap.size, 0, none⟩ = some (.int .i64 3) ∧ v.cell? ⟨w.heap.size, 1, none⟩ = some (.string ⟨x.name.toArray⟩) ∧ v.cell? ⟨w.heap.size, 2, none⟩ = some (.int .i64 x.num) ∧ v.cell? ⟨w.heap.size, 3, none⟩ = some (.slice ka x.kids.length kc)) (by kernel_rfl) ⟨c0, c1, c2, c3⟩ (fun hH0 => ?_)
 refine Hd.tk 0 1 hH0 ?_ (hQ := fun c a w h => HPQ c _ _ w (put_defers a _ _) h)
 refine Hd.tk 1 2 hH0 ?_ (hQ := fun c a w h => HPQ c _ _ w (put_defers a _ _) h)
 refine Hd.tk 2 3 hH0 ?_ (hQ := fun c a w h => HPQ c _ _ w (put_defers a _ _) h)
 refine Hd.tk 3 12 hH0 ?_ (hQ := fun c a w h => HPQ c _ _ w (put_defers a _ _) h)
 refine Hd.tk 4 5 hH0 ?_ (hQ := fun c a w h => HPQ c _ _ w (put_defers a _ _) h)
 refine Hd.tk 5 12 hH0 ?_ (hQ := fun c a w h => HPQ c _ _ w (put_defers a _ _) h)
 refine Hd.tk 6 7 hH0 ?_ (hQ := fun c a w h => HPQ c _ _ w (put_defers a _ _) h)
 refine Hd.tk 7 12 hH0 ?_ (hQ := fun c a w h => HPQ c _ _ w (put_defers a _ _) h)
 refine Hd.tk 8 11 hH0 ?_ (hQ := fun c a w h => HPQ c _ _ w (put_defers a _ _) h)
 refine Hd.tk 9 10 hH0 ?_ (hQ := fun c a w h => HPQ c _ _ w (put_defers a _ _) h)
 refine Hd.tk 10 11 hH0 ?_ (hQ := fun c a w h => HPQ c _ _ w (put_defers a _ _) h)
 have hdr : W2.drew.heap.size = W2.heap.size := rfl
 refine Hd.on 11 (fun K hK => ?_)
 go_simp
 refine (HA.out W2.drew (Below.refl _ _).drew).mono ?_; intro e w7 ht
 have n0 : w.heap.size ≠ b := by omega
 have n1 : w.heap.size + 1 ≠ b := by omega
 have g0 : some w.heap.size ≠ kv.ownBlock := fun e => by have := (HRL.out _ e.symm).2; omega
 have g1 : some (w.heap.size + 1) ≠ kv.ownBlock := fun e => by have := (HRL.out _ e.symm).2; omega
 cases E with
 | error y =>
  obtain ⟨rfl, hb7⟩ := ht
  have hR := HR3.out
  simp only at hR
  subst hR
  have HB9 := Lib.hid ((HBB.out.mono hB).trans (Below.trans (Below.mono (show Below W2.heap.size W2 W2.drew from (Below.refl _ _).drew) (by omega)) hb7))

  exact ⟨rfl, rfl, HB9.out⟩
 | ok y =>
  obtain ⟨ks, n7⟩ := y
  obtain ⟨iv, kv7, rfl, hout, hr7, hn7, hm7⟩ := ht
  have hR := HR3.out
  simp only at hR
  subst hR
  obtain ⟨ia, ic, rfl, -, -⟩ := hout.its.form
  have hkaD : Blk NDT w.heap.size #[.int .i64 3, .string ⟨x.name.toArray⟩, .int .i64 x.num, .slice ka x.kids.length kc, .slice na x.names.length nc, .int .i64 x.at_] w7 := blk_mv2 (show Blk NDT w.heap.size #[.int .i64 3, .string ⟨x.name.toArray⟩, .int .i64 x.num, .slice ka x.kids.length kc, .slice na x.names.length nc, .int .i64 x.at_] W2.drew from HKA.out.drewN 1) hm7 n0 g0
  have hkrD : Blk IT (w.heap.size + 1) #[.int .i64 0, .string ⟨#[]⟩, .int .i64 0, .int .i64 0, .int .i64 0, .slice none 0 0] w7 := blk_mv2 (show Blk IT (w.heap.size + 1) #[.int .i64 0, .string ⟨#[]⟩, .int .i64 0, .int .i64 0, .int .i64 0, .slice none 0 0] W2.drew from HKB.out.drewN 1) hm7 n1 g1
  have hMD : Mv2 b kv.ownBlock w w7 := (Mv2.of_bel (g := kv.ownBlock) (bel_drewN HBB.out 1)).trans (Near.refl _ _) hm7
  have hnr : ∀ j, kv7.ownBlock = some j → kv.ownBlock = some j ∨ W2.heap.size ≤ j := fun j hj => hn7 j hj
  have HKR := Lib.hid hkrD
  have hc7 : w7.cell? ⟨w.heap.size, 0, none⟩ = some (.int .i64 3) ∧ w7.cell? ⟨w.heap.size, 1, none⟩ = some (.string ⟨x.name.toArray⟩) ∧ w7.cell? ⟨w.heap.size, 2, none⟩ = some (.int .i64 x.num) ∧ w7.cell? ⟨w.heap.size, 3, none⟩ = some (.slice ka x.kids.length kc) := ⟨hkaD.c 0 _ rfl, hkaD.c 1 _ rfl, hkaD.c 2 _ rfl, hkaD.c 3 _ rfl⟩
  have HC7 := Lib.hid hc7
  have HMD := Lib.hid hMD
  have HNR4 := Lib.hid hnr
  have HITS := Lib.hid hout.its
  have HR7 := Lib.hid hr7
  clear hout hr7 hn7 hm7 hkaD hkrD hMD hnr hc7
  go_wp2_with fail
  refine hK.out _ _ HC7.out (fun hH1 => ?_)
  clear hK K
  try simp only [Act.put, Hd.sa, Hd.sz, Hd.ss]
  refine Hd.tk 12 13 hH1 ?_ (hQ := fun c a w h => HPQ c _ _ w (put_defers a _ _) h)
  have r0 := HKR.out.c 0 _ rfl
  have r1 := HKR.out.c 1 _ rfl
  have r2 := HKR.out.c 2 _ rfl
  have r3 := HKR.out.c 3 _ rfl
  have r4 := HKR.out.c 4 _ rfl
  have r5 := HKR.out.c 5 _ rfl
  have rf := HKR.out.fz
  clear hH1
  refine Hd.la 13 (fun K hK => ?_)
  go_simp
  refine hK.out _ _ ?_
  clear hK K
  try simp only [Act.put, Hd.sa, Hd.sz, Hd.ss]
  clear hH0
  go_wp2_with fail
  rw [show IntKind.i64.wrap (IntKind.i64.wrap 4 - 1) = 3 from rfl]
  have H6 := six_item (A := W2.heap.size) (k := w.heap.size + 1) (v0 := .int .i64 3) (v1 := .string ⟨x.name.toArray⟩) (v2 := .int .i64 x.num) (v3 := .int .i64 0) (v4 := .int .i64 0) (v5 := .slice ia ks.length ic) hlt hB (show w.heap.size ≤ w.heap.size + 1 by omega) (by omega) HRL.out HNR4.out HITS.out HR7.out HMD.out
  have hk6 := blk_set6 (v0 := .int .i64 3) (v1 := .string ⟨x.name.toArray⟩) (v2 := .int .i64 x.num) (v3 := .int .i64 0) (v4 := .int .i64 0) (v5 := .slice ia ks.length ic) HKR.out
  obtain ⟨W6, hW6⟩ : ∃ W, (((((w7.setCell ⟨w.heap.size + 1, 0, none⟩ (.int .i64 3)).setCell ⟨w.heap.size + 1, 1, none⟩ (.string ⟨x.name.toArray⟩)).setCell ⟨w.heap.size + 1, 2, none⟩ (.int .i64 x.num)).setCell ⟨w.heap.size + 1, 3, none⟩ (.int .i64 0)).setCell ⟨w.heap.size + 1, 4, none⟩ (.int .i64 0)).setCell ⟨w.heap.size + 1, 5, none⟩ (.slice ia ks.length ic) = W := ⟨_, rfl⟩
  rw [hW6] at H6 hk6 ⊢
  have z0 := hk6.c 0 _ rfl
  have z1 := hk6.c 1 _ rfl
  have z2 := hk6.c 2 _ rfl
  have z3 := hk6.c 3 _ rfl
  have z4 := hk6.c 4 _ rfl
  have z5 := hk6.c 5 _ rfl
  refine bodyPost_ret (v := .agg #[.int .i64 3, .string ⟨x.name.toArray⟩, .int .i64 x.num, .int .i64 0, .int .i64 0, .slice ia ks.length ic]) (by simp [results, Tryz.results48, go_sem, z0, z1, z2, z3, z4, z5]) rfl ?_
  exact ⟨_, kv7, rfl, H6⟩
set_option maxRecDepth 100000 in
set_option maxHeartbeats 3200000 in
theorem item_lit4 (x : Nd) (hk : x.kind = 4) (hAll : AllOk x.kids) : OneOk 48 x (fun F G N n => oneR F G true x N n) := by
 intro B b F G kv fv gv ka na kc nc N n w hR hn hNn hB hT hNm
 have hlt := hR.blk.lt
 have hlo := hR.lo
 have hrl := hR.row.lt
 obtain ⟨R, hRR⟩ : ∃ R, oneR F G true x N n = R := ⟨_, rfl⟩
 simp only [hRR]
 obtain ⟨xk, hxk⟩ : ∃ k, x.kind = k := ⟨_, rfl⟩
 rw [hxk]
 have hbA := alloc_bel w (.cells #[.int .i64 xk, .string ⟨x.name.toArray⟩, .int .i64 x.num, .slice ka x.kids.length kc, .slice na x.names.length nc, .int .i64 x.at_] NDT)
 have hKA := Blk.made (T := NDT) (cs := #[.int .i64 xk, .string ⟨x.name.toArray⟩, .int .i64 x.num, .slice ka x.kids.length kc, .slice na x.names.length nc, .int .i64 x.at_]) w
 have hzA : (w.alloc (.cells #[.int .i64 xk, .string ⟨x.name.toArray⟩, .int .i64 x.num, .slice ka x.kids.length kc, .slice na x.names.length nc, .int .i64 x.at_] NDT)).heap.size = w.heap.size + 1 := by simp
 obtain ⟨W1, halA⟩ : ∃ W, w.alloc (.cells #[.int .i64 xk, .string ⟨x.name.toArray⟩, .int .i64 x.num, .slice ka x.kids.length kc, .slice na x.names.length nc, .int .i64 x.at_] NDT) = W := ⟨_, rfl⟩
 rw [halA] at hbA hKA hzA
 have hbB := hbA.trans ((alloc_bel W1 (.cells #[.int .i64 0, .string ⟨#[]⟩, .int .i64 0, .int .i64 0, .int .i64 0, .slice none 0 0] IT)).mono (by omega))
 have hKB := Blk.made (T := IT) (cs := #[.int .i64 0, .string ⟨#[]⟩, .int .i64 0, .int .i64 0, .int .i64 0, .slice none 0 0]) W1
 have hKA := hKA.alloc (.cells #[.int .i64 0, .string ⟨#[]⟩, .int .i64 0, .int .i64 0, .int .i64 0, .slice none 0 0] IT)
 have hzB : (W1.alloc (.cells #[.int .i64 0, .string ⟨#[]⟩, .int .i64 0, .int .i64 0, .int .i64 0, .slice none 0 0] IT)).heap.size = W1.heap.size + 1 := by simp
 obtain ⟨W2, halB⟩ : ∃ W, W1.alloc (.cells #[.int .i64 0, .string ⟨#[]⟩, .int .i64 0, .int .i64 0, .int .i64 0, .slice none 0 0] IT) = W := ⟨_, rfl⟩
 rw [halB] at hbB hKA hKB hzB
 rw [hzA] at hKB hzB
 have hT2 := hT.kp (Kp.lt (hbB.mono hB))
 have hNm2 := hNm.kp (Kp.lt (hbB.mono hB))
 have hR2 := hR.bel hbB
 have hB2 : B ≤ W2.heap.size := by omega
 obtain ⟨E, hE⟩ : ∃ E, allR F G true x.kids N n = E := ⟨_, rfl⟩
 have HA := fun w' (hb : Below W2.heap.size W2 w') => hAll B b F G kv fv gv (.slice ka x.kids.length kc) N n w' (hR2.bel hb) hn hNn (by have := hb.size; omega) (hT2.kp (Kp.lt (hb.mono (by omega))))
 rw [hE] at HA
 replace HA := Lib.hid HA
 unfold oneR at hRR
 rw [if_neg (by omega), if_neg (by omega), if_neg (by omega), if_neg (by omega), if_neg (by omega), if_neg (by omega), if_pos (by omega), hE] at hRR
 have c0 := hKA.c 0 _ rfl
 have c1 := hKA.c 1 _ rfl
 have c2 := hKA.c 2 _ rfl
 have c3 := hKA.c 3 _ rfl
 have c4 := hKA.c 4 _ rfl
 have c5 := hKA.c 5 _ rfl
 have HKA := Lib.hid hKA
 have HKB := Lib.hid hKB
 have HBB := Lib.hid hbB
 have HRL := Lib.hid hrl
 have HT2 := Lib.hid hT2
 have HNM2 := Lib.hid hNm2
 have HR2 := Lib.hid hR2
 have HR0 := Lib.hid hR
 rw [hxk] at hRR
 obtain rfl : xk = 4 := by omega
 have HR3 := Lib.hid hRR
 clear hT hT2 hNm hNm2 hKA hKB hbA hbB hR hR2 hrl hRR hE hAll
 go_enter Tryz.func48, Tryz.ntmps48
 go_upto_region 6 with fail
 refine region_pk (fun c a a' w h hq => (show a.defers = [] ∧ _ from ⟨h ▸ (show a'.defers = [] ∧ _ from hq).1, (show a'.defers = [] ∧ _ from hq).2⟩)) (fun HPQ => ?_)
 refine Hd.start (fun v => v.cell? ⟨w.heap.size, 0, none⟩ = some (.int .i64 4) ∧ v.cell? ⟨w.heap.size, 1, none⟩ = some (.string ⟨x.name.toArray⟩) ∧ v.cell? ⟨w.heap.size, 2, none⟩ = some (.int .i64 x.num) ∧ v.cell? ⟨w.heap.size, 3, none⟩ = some (.slice ka x.kids.length kc)) (by kernel_rfl) ⟨c0, c1, c2, c3⟩ (fun hH0 => ?_)
 refine Hd.tk 0 1 hH0 ?_ (hQ := fun c a w h => HPQ c _ _ w (put_defers a _ _) h)
 refine Hd.tk 1 2 hH0 ?_ (hQ := fun c a w h => HPQ c _ _ w (put_defers a _ _) h)
 refine Hd.tk 2 3 hH0 ?_ (hQ := fun c a w h => HPQ c _ _ w (put_defers a _ _) h)
 refine Hd.tk 3 12 hH0 ?_ (hQ := fun c a w h => HPQ c _ _ w (put_defers a _ _) h)
 refine Hd.tk 4 5 hH0 ?_ (hQ := fun c a w h => HPQ c _ _ w (put_defers a _ _) h)
 refine Hd.tk 5 12 hH0 ?_ (hQ := fun c a w h => HPQ c _ _ w (put_defers a _ _) h)
 refine Hd.tk 6 7 hH0 ?_ (hQ := fun c a w h => HPQ c _ _ w (put_defers a _ _) h)
 refine Hd.tk 7 12 hH0 ?_ (hQ := fun c a w h => HPQ c _ _ w (put_defers a _ _) h)
 refine Hd.tk 8 11 hH0 ?_ (hQ := fun c a w h => HPQ c _ _ w (put_defers a _ _) h)
 refine Hd.tk 9 10 hH0 ?_ (hQ := fun c a w h => HPQ c _ _ w (put_defers a _ _) h)
 refine Hd.tk 10 11 hH0 ?_ (hQ := fun c a w h => HPQ c _ _ w (put_defers a _ _) h)
 have hdr : W2.drew.heap.size = W2.heap.size := rfl
 refine Hd.on 11 (fun K hK => ?_)
 go_simp
 refine (HA.out W2.drew (Below.refl _ _).drew).mono ?_; intro e w7 ht
 have n0 : w.heap.size ≠ b := by omega
 have n1 : w.heap.size + 1 ≠ b := by omega
 have g0 : some w.heap.size ≠ kv.ownBlock := fun e => by have := (HRL.out _ e.symm).2; omega
 have g1 : some (w.heap.size + 1) ≠ kv.ownBlock := fun e => by have := (HRL.out _ e.symm).2; omega
 cases E with
 | error y =>
  obtain ⟨rfl, hb7⟩ := ht
  have hR := HR3.out
  simp only at hR
  subst hR
  have HB9 := Lib.hid ((HBB.out.mono hB).trans (Below.trans (Below.mono (show Below W2.heap.size W2 W2.drew from (Below.refl _ _).drew) (by omega)) hb7))

  exact ⟨rfl, rfl, HB9.out⟩
 | ok y =>
  obtain ⟨ks, n7⟩ := y
  obtain ⟨iv, kv7, rfl, hout, hr7, hn7, hm7⟩ := ht
  have hR := HR3.out
  simp only at hR
  subst hR
  obtain ⟨ia, ic, rfl, -, -⟩ := hout.its.form
  have hkaD : Blk NDT w.heap.size #[.int .i64 4, .string ⟨x.name.toArray⟩, .int .i64 x.num, .slice ka x.kids.length kc, .slice na x.names.length nc, .int .i64 x.at_] w7 := blk_mv2 (show Blk NDT w.heap.size #[.int .i64 4, .string ⟨x.name.toArray⟩, .int .i64 x.num, .slice ka x.kids.length kc, .slice na x.names.length nc, .int .i64 x.at_] W2.drew from HKA.out.drewN 1) hm7 n0 g0
  have hkrD : Blk IT (w.heap.size + 1) #[.int .i64 0, .string ⟨#[]⟩, .int .i64 0, .int .i64 0, .int .i64 0, .slice none 0 0] w7 := blk_mv2 (show Blk IT (w.heap.size + 1) #[.int .i64 0, .string ⟨#[]⟩, .int .i64 0, .int .i64 0, .int .i64 0, .slice none 0 0] W2.drew from HKB.out.drewN 1) hm7 n1 g1
  have hMD : Mv2 b kv.ownBlock w w7 := (Mv2.of_bel (g := kv.ownBlock) (bel_drewN HBB.out 1)).trans (Near.refl _ _) hm7
  have hnr : ∀ j, kv7.ownBlock = some j → kv.ownBlock = some j ∨ W2.heap.size ≤ j := fun j hj => hn7 j hj
  have HKR := Lib.hid hkrD
  have hc7 : w7.cell? ⟨w.heap.size, 0, none⟩ = some (.int .i64 4) ∧ w7.cell? ⟨w.heap.size, 1, none⟩ = some (.string ⟨x.name.toArray⟩) ∧ w7.cell? ⟨w.heap.size, 2, none⟩ = some (.int .i64 x.num) ∧ w7.cell? ⟨w.heap.size, 3, none⟩ = some (.slice ka x.kids.length kc) := ⟨hkaD.c 0 _ rfl, hkaD.c 1 _ rfl, hkaD.c 2 _ rfl, hkaD.c 3 _ rfl⟩
  have HC7 := Lib.hid hc7
  have HMD := Lib.hid hMD
  have HNR4 := Lib.hid hnr
  have HITS := Lib.hid hout.its
  have HR7 := Lib.hid hr7
  clear hout hr7 hn7 hm7 hkaD hkrD hMD hnr hc7
  go_wp2_with fail
  refine hK.out _ _ HC7.out (fun hH1 => ?_)
  clear hK K
  try simp only [Act.put, Hd.sa, Hd.sz, Hd.ss]
  refine Hd.tk 12 13 hH1 ?_ (hQ := fun c a w h => HPQ c _ _ w (put_defers a _ _) h)
  have r0 := HKR.out.c 0 _ rfl
  have r1 := HKR.out.c 1 _ rfl
  have r2 := HKR.out.c 2 _ rfl
  have r3 := HKR.out.c 3 _ rfl
  have r4 := HKR.out.c 4 _ rfl
  have r5 := HKR.out.c 5 _ rfl
  have rf := HKR.out.fz
  clear hH1
  refine Hd.la 13 (fun K hK => ?_)
  go_simp
  refine hK.out _ _ ?_
  clear hK K
  try simp only [Act.put, Hd.sa, Hd.sz, Hd.ss]
  clear hH0
  go_wp2_with fail
  rw [show IntKind.i64.wrap (IntKind.i64.wrap 5 - 1) = 4 from rfl]
  have H6 := six_item (A := W2.heap.size) (k := w.heap.size + 1) (v0 := .int .i64 4) (v1 := .string ⟨x.name.toArray⟩) (v2 := .int .i64 x.num) (v3 := .int .i64 0) (v4 := .int .i64 0) (v5 := .slice ia ks.length ic) hlt hB (show w.heap.size ≤ w.heap.size + 1 by omega) (by omega) HRL.out HNR4.out HITS.out HR7.out HMD.out
  have hk6 := blk_set6 (v0 := .int .i64 4) (v1 := .string ⟨x.name.toArray⟩) (v2 := .int .i64 x.num) (v3 := .int .i64 0) (v4 := .int .i64 0) (v5 := .slice ia ks.length ic) HKR.out
  obtain ⟨W6, hW6⟩ : ∃ W, (((((w7.setCell ⟨w.heap.size + 1, 0, none⟩ (.int .i64 4)).setCell ⟨w.heap.size + 1, 1, none⟩ (.string ⟨x.name.toArray⟩)).setCell ⟨w.heap.size + 1, 2, none⟩ (.int .i64 x.num)).setCell ⟨w.heap.size + 1, 3, none⟩ (.int .i64 0)).setCell ⟨w.heap.size + 1, 4, none⟩ (.int .i64 0)).setCell ⟨w.heap.size + 1, 5, none⟩ (.slice ia ks.length ic) = W := ⟨_, rfl⟩
  rw [hW6] at H6 hk6 ⊢
  have z0 := hk6.c 0 _ rfl
  have z1 := hk6.c 1 _ rfl
  have z2 := hk6.c 2 _ rfl
  have z3 := hk6.c 3 _ rfl
  have z4 := hk6.c 4 _ rfl
  have z5 := hk6.c 5 _ rfl
  refine bodyPost_ret (v := .agg #[.int .i64 4, .string ⟨x.name.toArray⟩, .int .i64 x.num, .int .i64 0, .int .i64 0, .slice ia ks.length ic]) (by simp [results, Tryz.results48, go_sem, z0, z1, z2, z3, z4, z5]) rfl ?_
  exact ⟨_, kv7, rfl, H6⟩
end
end Rv
end Go.Proofs.YtmmgfifpjifjnaaGreatDoor
namespace Go.Proofs.YtmmgfifpjifjnaaGreatDoor
open Go.RowKit
namespace Rv
open Bs Sm Tr
theorem variable_one (x : Nd) (h5 : x.kind = 5) : OneOk 82 x (fun F G N n => oneR F G true x N n) := by
 intro B b F G kv fv gv ka na kc nc N n w hR hn hNn hB hT hNm
 have hbl := hR.blk.lt
 have e1 : oneR F G true x N n = varR F G N n x.name x.at_ := by unfold oneR; rw [if_pos h5]
 simp only [e1]
 refine (variable_any x ka na kc nc hR).mono ?_
 intro e w' ht
 obtain ⟨hb, ht⟩ := ht
 have hv : ∀ i n', varR F G N n x.name x.at_ = .ok (i, n') → n' = n := by
  intro i n' h
  unfold varR at h
  split at h
  · cases h; rfl
  split at h
  · cases h; rfl
  split at h
  · cases h; rfl
  split at h
  · cases h
  cases h; rfl
 revert ht
 cases hE : varR F G N n x.name x.at_ with
 | error y =>
  intro ht
  exact ⟨ht, hb.mono hB⟩
 | ok y =>
  obtain ⟨i, n'⟩ := y
  rintro ⟨rfl, hk⟩
  obtain rfl := hv i n' hE
  exact ⟨_, kv, rfl, by rw [hk]; exact Its.nil _ _, hR.bel hb, Near.refl _ _, Mv2.of_bel hb⟩
theorem cnt_len : ∀ l : List Nd, l.length ≤ cntL l
 | [] => by simp
 | x :: l => by rw [cntL_cons, List.length_cons]; have := cnt_len l; omega
theorem cnt_mem {x : Nd} : ∀ {l : List Nd}, x ∈ l → 1 + cntL x.kids ≤ cntL l
 | y :: l, h => by
  rw [cntL_cons]
  rcases List.mem_cons.1 h with rfl | h
  · omega
  have := cnt_mem h; omega
theorem item_any (x : Nd) (hO : OkN x) (hOk : OkL x.kids) (hcnt : cntL x.kids ≤ 100000) (hAll : AllOk x.kids) (hTail : AllOk x.kids.tail) (hKK : ∀ y ∈ x.kids, AllOk y.kids) : OneOk 48 x (fun F G N n => oneR F G true x N n) := by
 have hlen := cnt_len x.kids
 by_cases h1 : x.kind = 1
 · exact item_lit1 x h1 hAll
 by_cases h2 : x.kind = 2
 · exact item_lit2 x h2 hAll
 by_cases h3 : x.kind = 3
 · exact item_lit3 x h3 hAll
 by_cases h4 : x.kind = 4
 · exact item_lit4 x h4 hAll
 by_cases h5 : x.kind = 5
 · exact item_variable x h5 (variable_one x h5)
 by_cases h6 : x.kind = 6
 · exact item_assign x h6 (assign_any x h6 hAll)
 by_cases h7 : x.kind = 7
 · refine item_send x h7 ?_
   intro B b F G kv fv gv ka na kc nc N n w hR hn hNn hB hT
   cases hs : superB x with
   | true => exact send_super x ka na kc nc h7 hs hO hTail (by omega) hR hn hNn hB hT
   | false => exact send_plain x true ka na kc nc h7 (by rw [hs]; rfl) hO hAll (by omega) hR hn hNn hB hT
 by_cases h8 : x.kind = 8
 · exact item_cascade x h8 (cascade_any x h8 hO hOk hKK hcnt)
 by_cases h9 : x.kind = 9
 · exact item_block x h9 (block_any x h9 hO hAll)
 by_cases h10 : x.kind = 10
 · exact item_ret x h10 hAll
 exact item_rest x (by omega)
theorem all_any : ∀ (A : Nat) (l : List Nd), cntL l < A → OkL l → cntL l ≤ 100000 → AllOk l
 | 0, l, h, _, _ => by omega
 | A + 1, l, h, hO, hc => by
  have hlen := cnt_len l
  refine all_step l (by omega) (fun x hx => ?_)
  obtain ⟨o1, o2⟩ := hO.mem hx
  have hm := cnt_mem hx
  refine item_any x o1 o2 (by omega) (all_any A _ (by omega) o2 (by omega)) (all_any A _ (by have := cnt_tail x.kids; omega) o2.rest (by have := cnt_tail x.kids; omega)) (fun y hy => ?_)
  have hy2 := cnt_mem hy
  exact all_any A _ (by omega) (o2.mem hy).2 (by omega)
end Rv
end Go.Proofs.YtmmgfifpjifjnaaGreatDoor
