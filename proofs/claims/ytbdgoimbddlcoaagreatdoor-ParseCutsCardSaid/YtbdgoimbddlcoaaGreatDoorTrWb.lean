/- Package tree, the walk: Check (printed by gen_trcheck.py, hdx.py). -/
import Derived.Test.YtbdgoimbddlcoaaGreatDoorTrWa
import Derived.Deep.DeepCutAuto
set_option linter.unusedVariables false
namespace Go.Proofs.YtbdgoimbddlcoaaGreatDoor
open Go.RowKit
namespace Tr
open Bs Sm
theorem ent25 : Ent 31 := enters_of Tryz.func31 (by kernel_rfl) rfl
theorem ent31 : Ent 37 := enters_of Tryz.func37 (by kernel_rfl) rfl
theorem cont_other {S : Nat → Prop} (v : Value) (l : List Bytes) (w : World) (hl : Rd S strV w v l) :
  Calls Tryz.prog 34 #[v, .func (.func 31) #[] #[]] w (Back (.bool (!l.all isName)) w) := by
 have H := contS_any 31 #[] (fun s => !isName s) v l w w hl (Below.refl _ _) ent25 (fun s w' _ => unname2_any s w')
 rwa [← List.not_all_eq_any_not] at H
theorem check2_any (x : Nd) (w : World) (kv nv : Value) (hk : Tree (fun _ => True) w kv x.kids) (hn : Rd (fun _ => True) strV w nv x.names) : Calls Tryz.prog 37 #[ndV x kv nv] w (Back (.bool (fitsB x false)) w) := by
 obtain ⟨ka, kc, rfl, -, -⟩ := hk.form
 obtain ⟨na, nc, rfl, -, -⟩ := hn.form
 have hX := alloc_bel w (.cells #[.int .i64 x.kind, .string ⟨x.name.toArray⟩, .int .i64 x.num, .slice ka x.kids.length kc, .slice na x.names.length nc, .int .i64 x.at_] 79)
 have HC := fits_any x false _ _ _ (hk.bel hX) (hn.below hX)
 unfold ndV at HC ⊢
 have HC := Lib.hid HC
 have HX := Lib.hid hX
 obtain ⟨q, hq⟩ : ∃ q, fitsB x false = q := ⟨_, rfl⟩
 rw [hq] at HC ⊢
 clear hk hn hX hq
 go_enter Tryz.func37, Tryz.ntmps37
 go_wp2_with fail
 refine HC.out.mono ?_; rintro e w1 ⟨rfl, hb⟩
 go_wp2_with fail
 go_ret
 exact ⟨by simp, HX.out.trans (hb.mono HX.out.size)⟩
theorem fits_all0 (l : List Nd) : l.all (fun x => fitsB x false) = fitsK false false l := by
 induction l with
 | nil => rw [fitsK_nil]; rfl
 | cons x l ih => rw [List.all_cons, ih, fitsK_cons]
theorem all_fits (v : Value) (l : List Nd) (w : World) (hl : Tree (fun _ => True) w v l) : Calls Tryz.prog 36 #[v, .func (.func 37) #[] #[]] w (Back (.bool (fitsK false false l)) w) := by
 have H := all_any 37 #[] (fun x => fitsB x false) v l w w hl (Below.refl _ _) ⟨ent31, fun x kv nv w' _ _ hk hn => check2_any x w' kv nv hk hn⟩
 rwa [fits_all0] at H
set_option maxRecDepth 100000 in
set_option maxHeartbeats 12800000 in
theorem Check_any (m : Mt) (pv tv bv : Value) (hc : cntL m.body ≤ 100000) (hin : ∀ x ∈ allL m.body, InI x) (w : World) (hm : MtAt (fun _ => True) w m pv tv bv) :
  Calls Tryz.prog 11 #[mtV m pv tv bv] w (Back (.int .i64 (checkM m)) w) := by
 have HAr := fun w' => Arity_at m.name w'
 unfold strV at HAr
 have HP := fun (w' : World) (h : Below w.heap.size w w') => cont_other pv m.params w' (hm.params.below h)
 have HT := fun (w' : World) (h : Below w.heap.size w w') => cont_other tv m.temps w' (hm.temps.below h)
 have HB := fun (w' : World) (h : Below w.heap.size w w') => statements_any bv m.body w' (hm.body.bel h)
 have HF := fun (w' : World) (h : Below w.heap.size w w') => all_fits bv m.body w' (hm.body.bel h)
 have HZ := fun (w' : World) (h : Below w.heap.size w w') => sized_any (m := m) (pv := pv) (tv := tv) (bv := bv) hc hin w' (hm.bel h)
 obtain ⟨pa, pc, rfl, hp1, hp2⟩ := hm.params.form
 obtain ⟨ta, tc, rfl, -, -⟩ := hm.temps.form
 obtain ⟨ba, bc, rfl, -, -⟩ := hm.body.form
 unfold maxLen at hp2
 unfold checkM headB
 unfold mtV at HZ ⊢
 obtain ⟨ar, har⟩ : ∃ q, Lx.arityL m.name = q := ⟨_, rfl⟩
 obtain ⟨q1, hq1⟩ : ∃ q, m.params.all isName = q := ⟨_, rfl⟩
 obtain ⟨q2, hq2⟩ : ∃ q, m.temps.all isName = q := ⟨_, rfl⟩
 obtain ⟨q3, hq3⟩ : ∃ q, bodyB m.body = q := ⟨_, rfl⟩
 obtain ⟨q4, hq4⟩ : ∃ q, fitsK false false m.body = q := ⟨_, rfl⟩
 obtain ⟨sz, hsz⟩ : ∃ q, sizedL m.body = q := ⟨_, rfl⟩
 obtain ⟨pl, hpl⟩ : ∃ q, m.params.length = q := ⟨_, rfl⟩
 obtain ⟨tl, htl⟩ : ∃ q, m.temps.length = q := ⟨_, rfl⟩
 obtain ⟨bl, hbl⟩ : ∃ q, m.body.length = q := ⟨_, rfl⟩
 have hrange := arity_in m.name
 rw [har] at HAr hrange ⊢
 rw [hq1] at HP ⊢
 rw [hq2] at HT ⊢
 rw [hq3] at HB ⊢
 rw [hq4] at HF ⊢
 rw [hsz] at HZ ⊢
 rw [hpl] at HP HZ hp1 ⊢
 rw [htl] at HT HZ ⊢
 rw [hbl] at HB HF HZ ⊢
 obtain ⟨Q, hQ⟩ : ∃ Q : Int, (if (decide (ar = (pl : Int)) && decide (0 ≤ m.prim) && decide (m.prim ≤ 999) && q1 && q2 && q3) = false then (3 : Int) else if q4 = false then 3 else sz) = Q := ⟨_, rfl⟩
 rw [hQ]
 have HQ := Lib.hid hQ
 replace HAr := Lib.hid HAr
 replace HP := Lib.hid HP
 replace HT := Lib.hid HT
 replace HB := Lib.hid HB
 replace HF := Lib.hid HF
 replace HZ := Lib.hid HZ
 have HM := Lib.hid (Blk.made (T := 28) (cs := #[.string ⟨m.name.toArray⟩, .slice pa pl pc, .slice ta tl tc, .int .i64 m.prim, .slice ba bl bc, .int .i64 m.at_]) w)
 clear hm hc hin har hq1 hq2 hq3 hq4 hsz hpl htl hbl hQ
 go_enter Tryz.func11, Tryz.ntmps11
 go_upto_region 2 with fail
 have hS : ∀ v, Below (w.heap.size + 1) (w.alloc (.cells #[.string ⟨m.name.toArray⟩, .slice pa pl pc, .slice ta tl tc, .int .i64 m.prim, .slice ba bl bc, .int .i64 m.at_] 28)) v → (v.cell? ⟨w.heap.size, 0, none⟩ = some (.string ⟨m.name.toArray⟩) ∧ v.cell? ⟨w.heap.size, 1, none⟩ = some (.slice pa pl pc) ∧ v.cell? ⟨w.heap.size, 2, none⟩ = some (.slice ta tl tc) ∧ v.cell? ⟨w.heap.size, 3, none⟩ = some (.int .i64 m.prim) ∧ v.cell? ⟨w.heap.size, 4, none⟩ = some (.slice ba bl bc) ∧ v.cell? ⟨w.heap.size, 5, none⟩ = some (.int .i64 m.at_)) := fun v hv =>
  have h := HM.out.below hv (by omega)
  ⟨h.c 0 _ rfl, h.c 1 _ rfl, h.c 2 _ rfl, h.c 3 _ rfl, h.c 4 _ rfl, h.c 5 _ rfl⟩
 have hz : (w.alloc (.cells #[.string ⟨m.name.toArray⟩, .slice pa pl pc, .slice ta tl tc, .int .i64 m.prim, .slice ba bl bc, .int .i64 m.at_] 28)).heap.size = w.heap.size + 1 := by simp
 obtain ⟨W0, hW0⟩ : ∃ W, w.alloc (.cells #[.string ⟨m.name.toArray⟩, .slice pa pl pc, .slice ta tl tc, .int .i64 m.prim, .slice ba bl bc, .int .i64 m.at_] 28) = W := ⟨_, rfl⟩
 rw [hW0] at hS hz ⊢
 have Hb0 : Hid (Below w.heap.size w W0) := Lib.hid (by rw [← hW0]; exact alloc_bel _ _)
 clear hW0 HM
 refine wp_region_noPanic ?_
 refine Hd.start (fun v => v.cell? ⟨w.heap.size, 0, none⟩ = some (.string ⟨m.name.toArray⟩) ∧ v.cell? ⟨w.heap.size, 1, none⟩ = some (.slice pa pl pc) ∧ v.cell? ⟨w.heap.size, 2, none⟩ = some (.slice ta tl tc) ∧ v.cell? ⟨w.heap.size, 3, none⟩ = some (.int .i64 m.prim) ∧ v.cell? ⟨w.heap.size, 4, none⟩ = some (.slice ba bl bc) ∧ v.cell? ⟨w.heap.size, 5, none⟩ = some (.int .i64 m.at_)) (by kernel_rfl) (hS _ (Below.refl _ W0).drew) (fun hH0 => ?_)
 refine Hd.tk 0 1 hH0 ?_
 refine Hd.tk 1 2 hH0 ?_
 refine Hd.tk 3 4 hH0 ?_
 refine Hd.tk 4 5 hH0 ?_
 refine Hd.tk 5 6 hH0 ?_
 refine Hd.on 2 (fun K hK => ?_)
 go_simp
 refine (HAr.out _).mono ?_; rintro e w1 ⟨rfl, hb1⟩
 have hb1' : Below (w.heap.size + 1) W0 w1 := (Below.refl _ W0).drew.trans (hb1.mono (by simp [hz]))
 have HB1 := Lib.hid hb1'
 clear hb1 hb1'
 go_wp2_with fail
 refine hK.out _ _ (hS _ HB1.out) (fun hH1 => ?_)
 clear hK K
 try simp only [Act.put, Hd.sa, Hd.sz, Hd.ss]
 by_cases h1 : ar = (pl : Int)
 rotate_left 1
 · have HE : Hid ((decide (ar = (pl : Int)) && decide (0 ≤ m.prim) && decide (m.prim ≤ 999) && q1 && q2 && q3) = false) := Lib.hid (by rw [decide_eq_false h1]; rfl)
   have hne : (ar != (pl : Int)) = true := by simpa using h1
   clear HP HT HB HF HZ
   refine Hd.tk 6 7 hH1 ?_
   refine Hd.tk 7 8 hH1 ?_
   refine Hd.sk 8 9 hH1 ?_
   refine Hd.sk 9 10 hH1 ?_
   refine Hd.sk 10 11 hH1 ?_
   refine Hd.tk 11 12 hH1 ?_
   refine Hd.tk 12 13 hH1 ?_
   refine Hd.sk 13 14 hH1 ?_
   refine Hd.sk 14 15 hH1 ?_
   refine Hd.sk 15 16 hH1 ?_
   refine Hd.tk 16 17 hH1 ?_
   refine Hd.tk 17 18 hH1 ?_
   refine Hd.sk 18 19 hH1 ?_
   refine Hd.sk 19 21 hH1 ?_
   refine Hd.sk 20 21 hH1 ?_
   refine Hd.sk 21 22 hH1 ?_
   refine Hd.tk 22 23 hH1 ?_
   refine Hd.tk 23 24 hH1 ?_
   refine Hd.sk 24 25 hH1 ?_
   refine Hd.sk 25 27 hH1 ?_
   refine Hd.sk 26 27 hH1 ?_
   refine Hd.sk 27 28 hH1 ?_
   refine Hd.tk 28 29 hH1 ?_
   refine Hd.tk 29 30 hH1 ?_
   refine Hd.sk 30 31 hH1 ?_
   refine Hd.sk 31 32 hH1 ?_
   refine Hd.sk 32 33 hH1 ?_
   refine Hd.sk 33 34 hH1 ?_
   refine Hd.la 34 (fun K hK => ?_)
   go_simp
   refine hK.out _ _ ?_
   clear hK K
   try simp only [Act.put, Hd.sa, Hd.sz, Hd.ss]
   simp only [NoPanic]
   clear hS
   go_wp2_with fail
   go_ret
   exact ⟨by rw [← HQ.out, HE.out]; rfl, Hb0.out.trans (HB1.out.mono (by omega))⟩
 have hne : (ar != (pl : Int)) = false := by simpa using h1
 have hE1 := decide_eq_true h1
 have HE1 := Lib.hid hE1
 clear h1 hE1
 refine Hd.tk 6 7 hH1 ?_
 refine Hd.tk 7 8 hH1 ?_
 refine Hd.tk 8 9 hH1 ?_
 refine Hd.tk 9 10 hH1 ?_
 by_cases h2 : 0 ≤ m.prim
 rotate_left 1
 · have HE : Hid ((decide (ar = (pl : Int)) && decide (0 ≤ m.prim) && decide (m.prim ≤ 999) && q1 && q2 && q3) = false) := Lib.hid (by rw [decide_eq_false h2]; simp)
   have hlt0 : decide (m.prim < 0) = true := decide_eq_true (by omega)
   clear HP HT HB HF HZ
   refine Hd.tk 10 11 hH1 ?_
   refine Hd.tk 11 12 hH1 ?_
   refine Hd.tk 12 13 hH1 ?_
   refine Hd.sk 13 14 hH1 ?_
   refine Hd.sk 14 15 hH1 ?_
   refine Hd.sk 15 16 hH1 ?_
   refine Hd.tk 16 17 hH1 ?_
   refine Hd.tk 17 18 hH1 ?_
   refine Hd.sk 18 19 hH1 ?_
   refine Hd.sk 19 21 hH1 ?_
   refine Hd.sk 20 21 hH1 ?_
   refine Hd.sk 21 22 hH1 ?_
   refine Hd.tk 22 23 hH1 ?_
   refine Hd.tk 23 24 hH1 ?_
   refine Hd.sk 24 25 hH1 ?_
   refine Hd.sk 25 27 hH1 ?_
   refine Hd.sk 26 27 hH1 ?_
   refine Hd.sk 27 28 hH1 ?_
   refine Hd.tk 28 29 hH1 ?_
   refine Hd.tk 29 30 hH1 ?_
   refine Hd.sk 30 31 hH1 ?_
   refine Hd.sk 31 32 hH1 ?_
   refine Hd.sk 32 33 hH1 ?_
   refine Hd.sk 33 34 hH1 ?_
   refine Hd.la 34 (fun K hK => ?_)
   go_simp
   refine hK.out _ _ ?_
   clear hK K
   try simp only [Act.put, Hd.sa, Hd.sz, Hd.ss]
   simp only [NoPanic]
   clear hS
   go_wp2_with fail
   go_ret
   exact ⟨by rw [← HQ.out, HE.out]; rfl, Hb0.out.trans (HB1.out.mono (by omega))⟩
 have hlt0 : decide (m.prim < 0) = false := decide_eq_false (by omega)
 have HE2 := Lib.hid (decide_eq_true h2)
 refine Hd.tk 10 11 hH1 ?_
 refine Hd.tk 11 12 hH1 ?_
 refine Hd.tk 12 13 hH1 ?_
 refine Hd.tk 13 14 hH1 ?_
 refine Hd.tk 14 15 hH1 ?_
 by_cases h3 : m.prim ≤ 999
 rotate_left 1
 · have HE : Hid ((decide (ar = (pl : Int)) && decide (0 ≤ m.prim) && decide (m.prim ≤ 999) && q1 && q2 && q3) = false) := Lib.hid (by rw [decide_eq_false h3]; simp)
   have hlt9 : decide (999 < m.prim) = true := decide_eq_true (by omega)
   clear HP HT HB HF HZ
   refine Hd.tk 15 16 hH1 ?_
   refine Hd.tk 16 17 hH1 ?_
   refine Hd.tk 17 18 hH1 ?_
   refine Hd.sk 18 19 hH1 ?_
   refine Hd.sk 19 21 hH1 ?_
   refine Hd.sk 20 21 hH1 ?_
   refine Hd.sk 21 22 hH1 ?_
   refine Hd.tk 22 23 hH1 ?_
   refine Hd.tk 23 24 hH1 ?_
   refine Hd.sk 24 25 hH1 ?_
   refine Hd.sk 25 27 hH1 ?_
   refine Hd.sk 26 27 hH1 ?_
   refine Hd.sk 27 28 hH1 ?_
   refine Hd.tk 28 29 hH1 ?_
   refine Hd.tk 29 30 hH1 ?_
   refine Hd.sk 30 31 hH1 ?_
   refine Hd.sk 31 32 hH1 ?_
   refine Hd.sk 32 33 hH1 ?_
   refine Hd.sk 33 34 hH1 ?_
   refine Hd.la 34 (fun K hK => ?_)
   go_simp
   refine hK.out _ _ ?_
   clear hK K
   try simp only [Act.put, Hd.sa, Hd.sz, Hd.ss]
   simp only [NoPanic]
   clear hS
   go_wp2_with fail
   go_ret
   exact ⟨by rw [← HQ.out, HE.out]; rfl, Hb0.out.trans (HB1.out.mono (by omega))⟩
 have hlt9 : decide (999 < m.prim) = false := decide_eq_false (by omega)
 have HE3 := Lib.hid (decide_eq_true h3)
 have HQ2 : Hid ((if (q1 && q2 && q3) = false then (3 : Int) else if q4 = false then 3 else sz) = Q) := Lib.hid (by rw [← HQ.out, HE1.out, HE2.out, HE3.out]; simp only [Bool.true_and])
 clear HQ HE1 HE2 HE3
 have HQ := HQ2
 clear HQ2
 refine Hd.tk 15 16 hH1 ?_
 refine Hd.tk 16 17 hH1 ?_
 refine Hd.tk 17 18 hH1 ?_
 refine Hd.tk 18 19 hH1 ?_
 refine Hd.tk 19 21 hH1 ?_
 refine Hd.tk 20 21 hH1 ?_
 refine Hd.on 21 (fun K hK => ?_)
 go_simp
 refine (HP.out _ (Hb0.out.trans (HB1.out.mono (by omega)))).mono ?_; rintro e w2 ⟨rfl, hb2⟩
 have hb2' : Below (w.heap.size + 1) W0 w2 := HB1.out.trans (hb2.mono (by have := HB1.out.size; omega))
 have HB2 := Lib.hid hb2'
 clear hb2 hb2'
 go_wp2_with fail
 refine hK.out _ _ (hS _ HB2.out) (fun hH2 => ?_)
 clear hK K
 try simp only [Act.put, Hd.sa, Hd.sz, Hd.ss]
 cases q1 with
 | false =>
  have HE : Hid ((false && q2 && q3) = false) := Lib.hid (by simp)
  clear HT HB HF HZ
  refine Hd.tk 22 23 hH2 ?_
  refine Hd.tk 23 24 hH2 ?_
  refine Hd.sk 24 25 hH2 ?_
  refine Hd.sk 25 27 hH2 ?_
  refine Hd.sk 26 27 hH2 ?_
  refine Hd.sk 27 28 hH2 ?_
  refine Hd.tk 28 29 hH2 ?_
  refine Hd.tk 29 30 hH2 ?_
  refine Hd.sk 30 31 hH2 ?_
  refine Hd.sk 31 32 hH2 ?_
  refine Hd.sk 32 33 hH2 ?_
  refine Hd.sk 33 34 hH2 ?_
  refine Hd.la 34 (fun K hK => ?_)
  go_simp
  refine hK.out _ _ ?_
  clear hK K
  try simp only [Act.put, Hd.sa, Hd.sz, Hd.ss]
  simp only [NoPanic]
  clear hS
  go_wp2_with fail
  go_ret
  exact ⟨by rw [← HQ.out, HE.out]; rfl, Hb0.out.trans (HB2.out.mono (by omega))⟩
 | true =>
  refine Hd.tk 22 23 hH2 ?_
  refine Hd.tk 23 24 hH2 ?_
  refine Hd.tk 24 25 hH2 ?_
  refine Hd.tk 25 27 hH2 ?_
  refine Hd.tk 26 27 hH2 ?_
  refine Hd.on 27 (fun K hK => ?_)
  go_simp
  refine (HT.out _ (Hb0.out.trans (HB2.out.mono (by omega)))).mono ?_; rintro e w3 ⟨rfl, hb3⟩
  have hb3' : Below (w.heap.size + 1) W0 w3 := HB2.out.trans (hb3.mono (by have := HB2.out.size; omega))
  have HB3 := Lib.hid hb3'
  clear hb3 hb3'
  go_wp2_with fail
  refine hK.out _ _ (hS _ HB3.out) (fun hH3 => ?_)
  clear hK K
  try simp only [Act.put, Hd.sa, Hd.sz, Hd.ss]
  cases q2 with
  | false =>
   have HE : Hid ((true && false && q3) = false) := Lib.hid (by simp)
   clear HB HF HZ
   refine Hd.tk 28 29 hH3 ?_
   refine Hd.tk 29 30 hH3 ?_
   refine Hd.sk 30 31 hH3 ?_
   refine Hd.sk 31 32 hH3 ?_
   refine Hd.sk 32 33 hH3 ?_
   refine Hd.sk 33 34 hH3 ?_
   refine Hd.la 34 (fun K hK => ?_)
   go_simp
   refine hK.out _ _ ?_
   clear hK K
   try simp only [Act.put, Hd.sa, Hd.sz, Hd.ss]
   simp only [NoPanic]
   clear hS
   go_wp2_with fail
   go_ret
   exact ⟨by rw [← HQ.out, HE.out]; rfl, Hb0.out.trans (HB3.out.mono (by omega))⟩
  | true =>
   refine Hd.tk 28 29 hH3 ?_
   refine Hd.tk 29 30 hH3 ?_
   refine Hd.tk 30 31 hH3 ?_
   refine Hd.tk 31 32 hH3 ?_
   refine Hd.on 32 (fun K hK => ?_)
   go_simp
   refine (HB.out _ (Hb0.out.trans (HB3.out.mono (by omega)))).mono ?_; rintro e w4 ⟨rfl, hb4⟩
   have hb4' : Below (w.heap.size + 1) W0 w4 := HB3.out.trans (hb4.mono (by have := HB3.out.size; omega))
   have HB4 := Lib.hid hb4'
   clear hb4 hb4'
   go_wp2_with fail
   refine hK.out _ _ (hS _ HB4.out) (fun hH4 => ?_)
   clear hK K
   try simp only [Act.put, Hd.sa, Hd.sz, Hd.ss]
   refine Hd.tk 33 34 hH4 ?_
   refine Hd.la 34 (fun K hK => ?_)
   go_simp
   refine hK.out _ _ ?_
   clear hK K
   try simp only [Act.put, Hd.sa, Hd.sz, Hd.ss]
   simp only [NoPanic]
   obtain ⟨e0, e1, e2, e3, e4, e5⟩ := hS _ HB4.out
   have Hb5 := Lib.hid (Hb0.out.trans (HB4.out.mono (by omega)))
   cases q3 with
   | false =>
    clear hS
    go_wp2_with fail
    go_ret
    exact ⟨by rw [← HQ.out]; rfl, Hb5.out⟩
   | true =>
    have hS2 : ∀ v, Below w4.heap.size w4 v → (v.cell? ⟨w.heap.size, 0, none⟩ = some (.string ⟨m.name.toArray⟩) ∧ v.cell? ⟨w.heap.size, 1, none⟩ = some (.slice pa pl pc) ∧ v.cell? ⟨w.heap.size, 2, none⟩ = some (.slice ta tl tc) ∧ v.cell? ⟨w.heap.size, 3, none⟩ = some (.int .i64 m.prim) ∧ v.cell? ⟨w.heap.size, 4, none⟩ = some (.slice ba bl bc) ∧ v.cell? ⟨w.heap.size, 5, none⟩ = some (.int .i64 m.at_)) := fun v hv => hS v (HB4.out.trans (hv.mono (by have := HB4.out.size; omega)))
    have HS2 := Lib.hid hS2
    clear hS hS2
    go_wp2_with fail
    refine (HF.out _ Hb5.out).mono ?_; rintro e w5 ⟨rfl, hb6⟩
    have hs6 := HS2.out w5 hb6
    have Hb6 := Lib.hid (Hb5.out.trans (hb6.mono Hb5.out.size))
    clear hb6 e0 e1 e2 e3 e4 e5
    obtain ⟨e0, e1, e2, e3, e4, e5⟩ := hs6
    cases q4 with
    | false =>
     go_wp2_with fail
     go_ret
     exact ⟨by rw [← HQ.out]; rfl, Hb6.out⟩
    | true =>
     go_wp2_with fail
     refine (HZ.out _ Hb6.out).mono ?_; rintro e w6 ⟨rfl, hb7⟩
     have Hb7 := Lib.hid (Hb6.out.trans (hb7.mono Hb6.out.size))
     clear hb7
     go_wp2_with fail
     go_ret
     exact ⟨by rw [← HQ.out]; rfl, Hb7.out⟩
end Tr
end Go.Proofs.YtbdgoimbddlcoaaGreatDoor
