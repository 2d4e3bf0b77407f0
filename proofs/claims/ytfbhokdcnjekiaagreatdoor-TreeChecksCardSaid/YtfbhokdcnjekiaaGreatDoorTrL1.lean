/- The law TreeChecks (printed by gen_trl1.py, hdx.py). -/
import Derived.Test.YtfbhokdcnjekiaaGreatDoorTrR5
import Derived.Test.YtfbhokdcnjekiaaGreatDoorTrAw
set_option linter.unusedVariables false
namespace Go.Proofs.YtfbhokdcnjekiaaGreatDoor
open Go.RowKit
namespace Tr
open Bs Sm
theorem bel_of_eq {w w' : World} (h : w = w') : Below w.heap.size w w' := by subst h; exact Below.refl _ _
/-- A block of six cells, each of which is stored anew. -/
theorem six {T k : Nat} {u0 u1 u2 u3 u4 u5 : Value} {w : World} (h : Blk T k #[u0, u1, u2, u3, u4, u5] w) (v0 v1 v2 v3 v4 v5 : Value) :
    Blk T k #[v0, v1, v2, v3, v4, v5] ((((((w.setCell ⟨k, 0, none⟩ v0).setCell ⟨k, 1, none⟩ v1).setCell ⟨k, 2, none⟩ v2).setCell ⟨k, 3, none⟩ v3).setCell ⟨k, 4, none⟩ v4).setCell ⟨k, 5, none⟩ v5) :=
  ((((((h.set_ 0 v0 _ rfl).set_ 1 v1 _ rfl).set_ 2 v2 _ rfl).set_ 3 v3 _ rfl).set_ 4 v4 _ rfl).set_ 5 v5 _ rfl)
theorem six_two {k : Nat} (w : World) (v0 v1 v2 v3 v4 v5 : Value) :
    Two k k w ((((((w.setCell ⟨k, 0, none⟩ v0).setCell ⟨k, 1, none⟩ v1).setCell ⟨k, 2, none⟩ v2).setCell ⟨k, 3, none⟩ v3).setCell ⟨k, 4, none⟩ v4).setCell ⟨k, 5, none⟩ v5) :=
  ((((((Two.refl k k w).km 0 v0).km 1 v1).km 2 v2).km 3 v3).km 4 v4).km 5 v5
theorem MtAt.two {S : Nat → Prop} {k : Nat} {w w' : World} {m : Mt} {pv tv bv : Value} (h : MtAt S w m pv tv bv) (ht : Two k k w w') (hS : ∀ b, S b → b ≠ k) : MtAt S w' m pv tv bv :=
  h.kp ⟨Nat.le_of_eq ht.size.symm, fun b hb _ => ht.block b (hS b hb) (hS b hb)⟩
theorem MtAt.form {S : Nat → Prop} {w : World} {m : Mt} {pv tv bv : Value} (h : MtAt S w m pv tv bv) : ∃ pa pc ta tc ba bc, pv = .slice pa m.params.length pc ∧ tv = .slice ta m.temps.length tc ∧ bv = .slice ba m.body.length bc := by
  obtain ⟨pa, pc, e1, _⟩ := h.params.form
  obtain ⟨ta, tc, e2, _⟩ := h.temps.form
  obtain ⟨ba, bc, e3, _⟩ := h.body.form
  exact ⟨pa, pc, ta, tc, ba, bc, e1, e2, e3⟩
theorem Two.bel {k B : Nat} {w0 w w' : World} (h : Two k k w w') (hb : Below B w0 w) (hk : B ≤ k) : Below B w0 w' :=
  ⟨h.os.trans hb.os, h.tape.trans hb.tape, h.output.trans hb.output, by rw [h.size]; exact hb.size, fun b hlt => (h.block b (by omega) (by omega)).trans (hb.block b hlt)⟩
set_option maxRecDepth 100000 in
set_option maxHeartbeats 3200000 in
theorem checks_walk (m : Mt) (pv tv bv : Value) (hin : ∀ x ∈ allL m.body, InI x) (w : World) (hm : MtAt (fun _ => True) w m pv tv bv) (hpow : Pow10 w) (herr : ErrVar w) (hmax : MaxV w) :
    Calls Tryz.prog 3 #[mtV m pv tv bv] w (Back (.bool true) w) := by
  have hmB := hm.mono (S' := fun b => b < w.heap.size) (fun b _ hl => hl)
  obtain ⟨pa0, pc0, ta0, tc0, ba0, bc0, rfl, rfl, rfl⟩ := hm.form
  obtain ⟨M, hM⟩ : ∃ M, cutM m = M := ⟨_, rfl⟩
  have hmild : Mild M.body := by rw [← hM]; exact few_mild m.body hin 60
  have hpl15 : M.params.length ≤ 15 := by rw [← hM]; show (m.params.take 15).length ≤ 15; rw [List.length_take]; omega
  have htl15 : M.temps.length ≤ 15 := by rw [← hM]; show (m.temps.take 15).length ≤ 15; rw [List.length_take]; omega
  have HX := Lib.hid (alloc_bel w (.cells #[.string ⟨m.name.toArray⟩, .slice pa0 m.params.length pc0, .slice ta0 m.temps.length tc0, .int .i64 m.prim, .slice ba0 m.body.length bc0, .int .i64 m.at_] 25))
  have HK0 := Lib.hid (Blk.made (T := 25) (cs := #[.string ⟨m.name.toArray⟩, .slice pa0 m.params.length pc0, .slice ta0 m.temps.length tc0, .int .i64 m.prim, .slice ba0 m.body.length bc0, .int .i64 m.at_]) w)
  have HAW := Lib.hid (awake_any _ (hpow.below HX.out) (hmax.below HX.out) (herr.below HX.out))
  have HMB := Lib.hid hmB
  have HMI := Lib.hid hmild
  have HM := Lib.hid hM
  clear hm hmB hpow herr hmax hmild hM hin
  unfold mtV
  go_enter Tryz.func3, Tryz.ntmps3
  go_wp2_with fail
  refine HAW.out.mono ?_; rintro e w1 ⟨rfl, hb1⟩
  have hk1 := HK0.out.below hb1 HK0.out.lt
  have hb01 := HX.out.trans (hb1.mono HX.out.size)
  have HCUT := Lib.hid (cutm_any w.heap.size m _ _ _ w1 hb01.size (HMB.out.kp (Kp.lt hb01)))
  rw [HM.out] at HCUT
  unfold mtV at HCUT
  have c0 := hk1.c 0 _ rfl
  have c1 := hk1.c 1 _ rfl
  have c2 := hk1.c 2 _ rfl
  have c3 := hk1.c 3 _ rfl
  have c4 := hk1.c 4 _ rfl
  have c5 := hk1.c 5 _ rfl
  have HK1 := Lib.hid hk1
  have HB01 := Lib.hid hb01
  clear hb1 hk1 hb01
  go_wp2_with fail
  refine HCUT.out.mono ?_; rintro e w2 ⟨hb2, pv', tv', bv', rfl, hm2⟩
  obtain ⟨pa, pc, ta, tc, ba, bc, rfl, rfl, rfl⟩ := hm2.form
  have hk2 := HK1.out.below hb2 HK1.out.lt
  have hsz := HK1.out.lt
  have hf := hk2.fz
  have hlt := hk2.lt
  have e0 := hk2.c 0 _ rfl
  have e1 := hk2.c 1 _ rfl
  have e2 := hk2.c 2 _ rfl
  have e3 := hk2.c 3 _ rfl
  have e4 := hk2.c 4 _ rfl
  have e5 := hk2.c 5 _ rfl
  have HB02 := Lib.hid (HB01.out.trans (hb2.mono HB01.out.size))
  have HK2 := Lib.hid hk2
  have HM2 := Lib.hid hm2
  clear c0 c1 c2 c3 c4 c5 hk2 hm2 hb2 HCUT
  go_upto_region 4 with fail
  generalize hW3 : World.setCell _ _ _ = W3
  obtain ⟨pl, hpl⟩ : ∃ n, M.params.length = n := ⟨_, rfl⟩
  obtain ⟨tl, htl⟩ : ∃ n, M.temps.length = n := ⟨_, rfl⟩
  obtain ⟨bl, hbl⟩ : ∃ n, M.body.length = n := ⟨_, rfl⟩
  rw [hpl, htl, hbl] at HM2 hW3
  have htwo : Two w.heap.size w.heap.size w2 W3 := by rw [← hW3]; exact six_two _ _ _ _ _ _ _
  have hk3 : Blk 25 w.heap.size #[.string ⟨M.name.toArray⟩, .slice pa pl pc, .slice ta tl tc, .int .i64 M.prim, .slice ba bl bc, .int .i64 M.at_] W3 := by rw [← hW3]; exact six HK2.out _ _ _ _ _ _
  have hm3 := (HM2.out.two htwo (fun b hb => by omega)).mono (S' := fun _ => True) (fun _ _ _ => trivial)
  have HB03 := Lib.hid (htwo.bel HB02.out (Nat.le_refl _))
  have HOWN := Lib.hid (own_any M HMI.out hpl15 htl15 _ _ _ W3 hm3)
  unfold mtV at HOWN
  have c0 := hk3.c 0 _ rfl
  have c1 := hk3.c 1 _ rfl
  have c2 := hk3.c 2 _ rfl
  have c3 := hk3.c 3 _ rfl
  have c4 := hk3.c 4 _ rfl
  have c5 := hk3.c 5 _ rfl
  have HK3 := Lib.hid hk3
  have HM3 := Lib.hid hm3
  have HPL := Lib.hid hpl
  have HTL := Lib.hid htl
  have HBL := Lib.hid hbl
  clear hW3 htwo hk3 hm3 HM2 HK2 HB02 hf hlt hpl htl hbl e0 e1 e2 e3 e4 e5
  go_wp2_with fail
  refine HOWN.out.mono ?_; rintro e w4 ⟨hb4, pv4, tv4, bv4, rfl, hp4, ht4, hbd4⟩
  have hmx0 : MtAt (fun _ => True) w4 M pv4 tv4 bv4 := ⟨hp4.mono (fun _ _ _ => trivial), ht4.mono (fun _ _ _ => trivial), hbd4.tree.mono (fun _ _ _ => trivial)⟩
  obtain ⟨xa, xc, ya, yc, za, zc, rfl, rfl, rfl⟩ := hmx0.form
  rw [HPL.out, HTL.out, HBL.out] at hmx0
  have hk4 := HK3.out.below hb4 HK3.out.lt
  have HB04 := Lib.hid (HB03.out.trans (hb4.mono HB03.out.size))
  have hm4 := HM3.out.bel hb4
  obtain ⟨KX, hKX⟩ : ∃ k, w4.heap.size = k := ⟨_, rfl⟩
  have HX5 := Lib.hid (alloc_bel w4 (.cells #[.string ⟨M.name.toArray⟩, .slice xa pl xc, .slice ya tl yc, .int .i64 M.prim, .slice za bl zc, .int .i64 M.at_] 30))
  have hkx := Blk.made (T := 30) (cs := #[.string ⟨M.name.toArray⟩, .slice xa pl xc, .slice ya tl yc, .int .i64 M.prim, .slice za bl zc, .int .i64 M.at_]) w4
  rw [hKX] at hkx
  obtain ⟨w5, hw5⟩ : ∃ W, w4.alloc (.cells #[.string ⟨M.name.toArray⟩, .slice xa pl xc, .slice ya tl yc, .int .i64 M.prim, .slice za bl zc, .int .i64 M.at_] 30) = W := ⟨_, rfl⟩
  rw [hw5] at HX5 hkx
  rw [HPL.out, HTL.out, HBL.out]
  have hk5 := hk4.below HX5.out hk4.lt
  have hm5 := hm4.bel HX5.out
  have hx5 := hmx0.bel HX5.out
  have HB05 := Lib.hid (HB04.out.trans (HX5.out.mono HB04.out.size))
  have hc9 : cntL M.body ≤ 100000 := by have := HMI.out.few; omega
  have hin9 : ∀ x ∈ allL M.body, InI x := fun x hx => (HMI.out.fair x hx).2.2
  obtain ⟨ck, hck⟩ : ∃ c, checkM M = c := ⟨_, rfl⟩
  obtain ⟨dp, hdp⟩ : ∃ c, depthL M.body = c := ⟨_, rfl⟩
  obtain ⟨cn, hcn⟩ : ∃ c, cntL M.body = c := ⟨_, rfl⟩
  have HCK : Hid (∀ v, Below w5.heap.size w5 v → Calls Tryz.prog 10 #[.agg #[.string ⟨M.name.toArray⟩, .slice xa pl xc, .slice ya tl yc, .int .i64 M.prim, .slice za bl zc, .int .i64 M.at_]] v (Back (.int .i64 ck) v)) := Lib.hid (fun v hv => by
    rw [← hck]; exact Check_any M _ _ _ hc9 hin9 v (hx5.bel hv))
  have HRC : Hid (∀ v, Below w5.heap.size w5 v → Calls Tryz.prog 11 #[.agg #[.string ⟨M.name.toArray⟩, .slice pa pl pc, .slice ta tl tc, .int .i64 M.prim, .slice ba bl bc, .int .i64 M.at_]] v (Back (.int .i64 ck) v)) := Lib.hid (fun v hv => by
    rw [← hck]; exact rcheck_any M _ _ _ hc9 v (hm5.bel hv))
  have HDP : Hid (∀ v, Below w5.heap.size w5 v → Calls Tryz.prog 12 #[.agg #[.string ⟨M.name.toArray⟩, .slice xa pl xc, .slice ya tl yc, .int .i64 M.prim, .slice za bl zc, .int .i64 M.at_]] v (Back (.int .i64 (dp : Int)) v)) := Lib.hid (fun v hv => by
    rw [← hdp]; exact Depth_any hc9 v (hx5.bel hv).body)
  have HRD : Hid (∀ v, Below w5.heap.size w5 v → Calls Tryz.prog 13 #[.slice ba bl bc] v (Done (.int .i64 (dp : Int)) v)) := Lib.hid (fun v hv => by
    rw [← hdp]; exact rdepth_any M.body hc9 _ v (hm5.bel hv).body)
  have HCT : Hid (∀ v, Below w5.heap.size w5 v → Calls Tryz.prog 14 #[.agg #[.string ⟨M.name.toArray⟩, .slice xa pl xc, .slice ya tl yc, .int .i64 M.prim, .slice za bl zc, .int .i64 M.at_]] v (Back (.int .i64 (cn : Int)) v)) := Lib.hid (fun v hv => by
    rw [← hcn]; exact Count_any hc9 v (hx5.bel hv))
  have HAL : Hid (∀ v, Below w5.heap.size w5 v → Calls Tryz.prog 15 #[.slice ba bl bc] v (fun e v' => Below v.heap.size v v' ∧ ∃ ro rc, e = .returned (.slice ro cn rc))) := Lib.hid (fun v hv => by
    refine (rall_any M.body hc9 _ v (hm5.bel hv).body).mono ?_
    rintro e v' ⟨h1, v2, vl, rfl, hvl, hown, -, -⟩
    obtain ⟨ro, rc, h, -⟩ := own_slice hown
    refine ⟨h1, ro, rc, ?_⟩
    have : vl.length = cn := by rw [← hcn, ← allL_len, ← hvl, List.length_map]
    rw [h, this])
  have hS : Hid (∀ v, Below w5.heap.size w5 v → ((v.cell? ⟨KX, 0, none⟩ = some (.string ⟨M.name.toArray⟩) ∧ v.cell? ⟨KX, 1, none⟩ = some (.slice xa pl xc) ∧ v.cell? ⟨KX, 2, none⟩ = some (.slice ya tl yc) ∧ v.cell? ⟨KX, 3, none⟩ = some (.int .i64 M.prim) ∧ v.cell? ⟨KX, 4, none⟩ = some (.slice za bl zc) ∧ v.cell? ⟨KX, 5, none⟩ = some (.int .i64 M.at_)) ∧ (v.cell? ⟨w.heap.size, 0, none⟩ = some (.string ⟨M.name.toArray⟩) ∧ v.cell? ⟨w.heap.size, 1, none⟩ = some (.slice pa pl pc) ∧ v.cell? ⟨w.heap.size, 2, none⟩ = some (.slice ta tl tc) ∧ v.cell? ⟨w.heap.size, 3, none⟩ = some (.int .i64 M.prim) ∧ v.cell? ⟨w.heap.size, 4, none⟩ = some (.slice ba bl bc) ∧ v.cell? ⟨w.heap.size, 5, none⟩ = some (.int .i64 M.at_)))) := Lib.hid (fun v hv => by
    have h1 := hkx.below hv hkx.lt
    have h2 := hk5.below hv hk5.lt
    exact ⟨⟨h1.c 0 _ rfl, h1.c 1 _ rfl, h1.c 2 _ rfl, h1.c 3 _ rfl, h1.c 4 _ rfl, h1.c 5 _ rfl⟩, h2.c 0 _ rfl, h2.c 1 _ rfl, h2.c 2 _ rfl, h2.c 3 _ rfl, h2.c 4 _ rfl, h2.c 5 _ rfl⟩)
  have HFIN : Hid (∀ v, Below w5.heap.size w5 v → Below w.heap.size w v) := Lib.hid (fun v hv => HB05.out.trans (hv.mono HB05.out.size))
  clear hb4 hp4 ht4 hbd4 hmx0 hk4 hm4 hkx hk5 hm5 hx5 hck hdp hcn c0 c1 c2 c3 c4 c5 HM3 HK3 HB03 HB04 HOWN hin9 hc9 HMI HK1 HB01 HX HK0
  go_upto_region 5 with fail
  have HBW5 : Hid (Below w5.heap.size w5 w5.drew) := Lib.hid (Below.refl _ w5).drew
  refine wp_region_noPanic ?_
  refine Hd.start (fun v => (v.cell? ⟨KX, 0, none⟩ = some (.string ⟨M.name.toArray⟩) ∧ v.cell? ⟨KX, 1, none⟩ = some (.slice xa pl xc) ∧ v.cell? ⟨KX, 2, none⟩ = some (.slice ya tl yc) ∧ v.cell? ⟨KX, 3, none⟩ = some (.int .i64 M.prim) ∧ v.cell? ⟨KX, 4, none⟩ = some (.slice za bl zc) ∧ v.cell? ⟨KX, 5, none⟩ = some (.int .i64 M.at_)) ∧ (v.cell? ⟨w.heap.size, 0, none⟩ = some (.string ⟨M.name.toArray⟩) ∧ v.cell? ⟨w.heap.size, 1, none⟩ = some (.slice pa pl pc) ∧ v.cell? ⟨w.heap.size, 2, none⟩ = some (.slice ta tl tc) ∧ v.cell? ⟨w.heap.size, 3, none⟩ = some (.int .i64 M.prim) ∧ v.cell? ⟨w.heap.size, 4, none⟩ = some (.slice ba bl bc) ∧ v.cell? ⟨w.heap.size, 5, none⟩ = some (.int .i64 M.at_))) (by kernel_rfl) (hS.out _ HBW5.out) (fun hH0 => ?_)
  refine Hd.take 0 1 (oi := ?_) (v := ?_) ?_ (by kernel_rfl) (fun _ _ _ h => h) hH0 ?_ ?_ ?_
  rotate_left 2
  · simp only [List.getElem?_toArray, List.getElem?_cons_zero]
    exact rfl
  · rfl
  · intro w hSw
    (try dsimp only at hSw)
    go_simp
    try with_reducible rfl
  try simp only [Act.put, List.setIfInBounds_toArray, List.set_cons_zero, List.set_cons_succ]
  refine Hd.take 2 3 (oi := ?_) (v := ?_) ?_ (by kernel_rfl) (fun _ _ _ h => h) hH0 ?_ ?_ ?_
  rotate_left 2
  · simp only [List.getElem?_toArray, List.getElem?_cons_succ, List.getElem?_cons_zero]
    exact rfl
  · rfl
  · intro w hSw
    (try dsimp only at hSw)
    go_simp
    try with_reducible rfl
  try simp only [Act.put, List.setIfInBounds_toArray, List.set_cons_zero, List.set_cons_succ]
  refine Hd.one 1 1 (o := ?_) ?_ (by kernel_rfl) (fun K hK => ?_)
  rotate_left 1
  · simp only [List.getElem?_toArray, List.getElem?_cons_succ, List.getElem?_cons_zero]
    exact rfl
  go_simp
  refine (HCK.out _ HBW5.out).mono ?_; rintro e w6 ⟨rfl, hbd⟩
  have HBW6 := Lib.hid (HBW5.out.trans (hbd.mono HBW5.out.size))
  clear hbd
  go_wp2_with fail
  refine hK.out _ _ (hS.out _ HBW6.out) (fun hH1 => ?_)
  clear hK K
  try simp only [Act.put, List.setIfInBounds_toArray, List.set_cons_zero, List.set_cons_succ]
  refine Hd.one 3 3 (o := ?_) ?_ (by kernel_rfl) (fun K hK => ?_)
  rotate_left 1
  · simp only [List.getElem?_toArray, List.getElem?_cons_succ, List.getElem?_cons_zero]
    exact rfl
  go_simp
  refine (HRC.out _ HBW6.out).mono ?_; rintro e w7 ⟨rfl, hbd⟩
  have HBW7 := Lib.hid (HBW6.out.trans (hbd.mono HBW6.out.size))
  clear hbd
  go_wp2_with fail
  refine hK.out _ _ (hS.out _ HBW7.out) (fun hH2 => ?_)
  clear hK K
  try simp only [Act.put, List.setIfInBounds_toArray, List.set_cons_zero, List.set_cons_succ]
  refine Hd.take 4 5 (oi := ?_) (v := ?_) ?_ (by kernel_rfl) (fun _ _ _ h => h) hH2 ?_ ?_ ?_
  rotate_left 2
  · simp only [List.getElem?_toArray, List.getElem?_cons_succ, List.getElem?_cons_zero]
    exact rfl
  · rfl
  · intro w hSw
    (try dsimp only at hSw)
    go_simp
    try with_reducible rfl
  try simp only [Act.put, List.setIfInBounds_toArray, List.set_cons_zero, List.set_cons_succ]
  refine Hd.take 5 6 (oi := ?_) (v := ?_) ?_ (by kernel_rfl) (fun _ _ _ h => h) hH2 ?_ ?_ ?_
  rotate_left 2
  · simp only [List.getElem?_toArray, List.getElem?_cons_succ, List.getElem?_cons_zero]
    exact rfl
  · rfl
  · intro w hSw
    (try dsimp only at hSw)
    go_simp
    try with_reducible rfl
  try simp only [Act.put, List.setIfInBounds_toArray, List.set_cons_zero, List.set_cons_succ]
  refine Hd.take 6 7 (oi := ?_) (v := ?_) ?_ (by kernel_rfl) (fun _ _ _ h => h) hH2 ?_ ?_ ?_
  rotate_left 2
  · simp only [List.getElem?_toArray, List.getElem?_cons_succ, List.getElem?_cons_zero]
    exact rfl
  · rfl
  · intro w hSw
    (try dsimp only at hSw)
    go_simp
    try with_reducible rfl
  try simp only [Act.put, List.setIfInBounds_toArray, List.set_cons_zero, List.set_cons_succ]
  refine Hd.take 8 9 (oi := ?_) (v := ?_) ?_ (by kernel_rfl) (fun _ _ _ h => h) hH2 ?_ ?_ ?_
  rotate_left 2
  · simp only [List.getElem?_toArray, List.getElem?_cons_succ, List.getElem?_cons_zero]
    exact rfl
  · rfl
  · intro w hSw
    (try dsimp only at hSw)
    go_simp
    try with_reducible rfl
  try simp only [Act.put, List.setIfInBounds_toArray, List.set_cons_zero, List.set_cons_succ]
  refine Hd.take 9 10 (oi := ?_) (v := ?_) ?_ (by kernel_rfl) (fun _ _ _ h => h) hH2 ?_ ?_ ?_
  rotate_left 2
  · simp only [List.getElem?_toArray, List.getElem?_cons_succ, List.getElem?_cons_zero]
    exact rfl
  · rfl
  · intro w hSw
    (try dsimp only at hSw)
    go_simp
    try with_reducible rfl
  try simp only [Act.put, List.setIfInBounds_toArray, List.set_cons_zero, List.set_cons_succ]
  refine Hd.one 7 7 (o := ?_) ?_ (by kernel_rfl) (fun K hK => ?_)
  rotate_left 1
  · simp only [List.getElem?_toArray, List.getElem?_cons_succ, List.getElem?_cons_zero]
    exact rfl
  go_simp
  refine (HDP.out _ HBW7.out).mono ?_; rintro e w8 ⟨rfl, hbd⟩
  have HBW8 := Lib.hid (HBW7.out.trans (hbd.mono HBW7.out.size))
  clear hbd
  go_wp2_with fail
  refine hK.out _ _ (hS.out _ HBW8.out) (fun hH3 => ?_)
  clear hK K
  try simp only [Act.put, List.setIfInBounds_toArray, List.set_cons_zero, List.set_cons_succ]
  refine Hd.one 10 10 (o := ?_) ?_ (by kernel_rfl) (fun K hK => ?_)
  rotate_left 1
  · simp only [List.getElem?_toArray, List.getElem?_cons_succ, List.getElem?_cons_zero]
    exact rfl
  go_simp
  refine (HRD.out _ HBW8.out).mono ?_; rintro e w9 ⟨rfl, hwd⟩
  have hbd := bel_of_eq hwd
  have HBW9 := Lib.hid (HBW8.out.trans (hbd.mono HBW8.out.size))
  clear hbd hwd
  go_wp2_with fail
  refine hK.out _ _ (hS.out _ HBW9.out) (fun hH4 => ?_)
  clear hK K
  try simp only [Act.put, List.setIfInBounds_toArray, List.set_cons_zero, List.set_cons_succ]
  refine Hd.take 11 12 (oi := ?_) (v := ?_) ?_ (by kernel_rfl) (fun _ _ _ h => h) hH4 ?_ ?_ ?_
  rotate_left 2
  · simp only [List.getElem?_toArray, List.getElem?_cons_succ, List.getElem?_cons_zero]
    exact rfl
  · rfl
  · intro w hSw
    (try dsimp only at hSw)
    go_simp
    try with_reducible rfl
  try simp only [Act.put, List.setIfInBounds_toArray, List.set_cons_zero, List.set_cons_succ]
  refine Hd.take 12 13 (oi := ?_) (v := ?_) ?_ (by kernel_rfl) (fun _ _ _ h => h) hH4 ?_ ?_ ?_
  rotate_left 2
  · simp only [List.getElem?_toArray, List.getElem?_cons_succ, List.getElem?_cons_zero]
    exact rfl
  · rfl
  · intro w hSw
    (try dsimp only at hSw)
    go_simp
    try with_reducible rfl
  try simp only [Act.put, List.setIfInBounds_toArray, List.set_cons_zero, List.set_cons_succ]
  refine Hd.take 13 14 (oi := ?_) (v := ?_) ?_ (by kernel_rfl) (fun _ _ _ h => h) hH4 ?_ ?_ ?_
  rotate_left 2
  · simp only [List.getElem?_toArray, List.getElem?_cons_succ, List.getElem?_cons_zero]
    exact rfl
  · rfl
  · intro w hSw
    (try dsimp only at hSw)
    go_simp
    try with_reducible rfl
  try simp only [Act.put, List.setIfInBounds_toArray, List.set_cons_zero, List.set_cons_succ]
  refine Hd.take 14 15 (oi := ?_) (v := ?_) ?_ (by kernel_rfl) (fun _ _ _ h => h) hH4 ?_ ?_ ?_
  rotate_left 2
  · simp only [List.getElem?_toArray, List.getElem?_cons_succ, List.getElem?_cons_zero]
    exact rfl
  · rfl
  · intro w hSw
    (try dsimp only at hSw)
    go_simp
    try with_reducible rfl
  try simp only [Act.put, List.setIfInBounds_toArray, List.set_cons_zero, List.set_cons_succ]
  refine Hd.take 16 17 (oi := ?_) (v := ?_) ?_ (by kernel_rfl) (fun _ _ _ h => h) hH4 ?_ ?_ ?_
  rotate_left 2
  · simp only [List.getElem?_toArray, List.getElem?_cons_succ, List.getElem?_cons_zero]
    exact rfl
  · rfl
  · intro w hSw
    (try dsimp only at hSw)
    go_simp
    try with_reducible rfl
  try simp only [Act.put, List.setIfInBounds_toArray, List.set_cons_zero, List.set_cons_succ]
  refine Hd.take 17 18 (oi := ?_) (v := ?_) ?_ (by kernel_rfl) (fun _ _ _ h => h) hH4 ?_ ?_ ?_
  rotate_left 2
  · simp only [List.getElem?_toArray, List.getElem?_cons_succ, List.getElem?_cons_zero]
    exact rfl
  · rfl
  · intro w hSw
    (try dsimp only at hSw)
    go_simp
    try with_reducible rfl
  try simp only [Act.put, List.setIfInBounds_toArray, List.set_cons_zero, List.set_cons_succ]
  refine Hd.one 15 15 (o := ?_) ?_ (by kernel_rfl) (fun K hK => ?_)
  rotate_left 1
  · simp only [List.getElem?_toArray, List.getElem?_cons_succ, List.getElem?_cons_zero]
    exact rfl
  go_simp
  refine (HCT.out _ HBW9.out).mono ?_; rintro e w10 ⟨rfl, hbd⟩
  have HBW10 := Lib.hid (HBW9.out.trans (hbd.mono HBW9.out.size))
  clear hbd
  go_wp2_with fail
  refine hK.out _ _ (hS.out _ HBW10.out) (fun hH5 => ?_)
  clear hK K
  try simp only [Act.put, List.setIfInBounds_toArray, List.set_cons_zero, List.set_cons_succ]
  refine Hd.one 18 18 (o := ?_) ?_ (by kernel_rfl) (fun K hK => ?_)
  rotate_left 1
  · simp only [List.getElem?_toArray, List.getElem?_cons_succ, List.getElem?_cons_zero]
    exact rfl
  go_simp
  refine (HAL.out _ HBW10.out).mono ?_; rintro e w11 ⟨hbd, ro, rc, rfl⟩
  have HBW11 := Lib.hid (HBW10.out.trans (hbd.mono HBW10.out.size))
  clear hbd
  go_wp2_with fail
  refine hK.out _ _ (hS.out _ HBW11.out) (fun hH6 => ?_)
  clear hK K
  try simp only [Act.put, List.setIfInBounds_toArray, List.set_cons_zero, List.set_cons_succ]
  refine Hd.take 19 20 (oi := ?_) (v := ?_) ?_ (by kernel_rfl) (fun _ _ _ h => h) hH6 ?_ ?_ ?_
  rotate_left 2
  · simp only [List.getElem?_toArray, List.getElem?_cons_succ, List.getElem?_cons_zero]
    exact rfl
  · rfl
  · intro w hSw
    (try dsimp only at hSw)
    go_simp
    try with_reducible rfl
  try simp only [Act.put, List.setIfInBounds_toArray, List.set_cons_zero, List.set_cons_succ]
  refine Hd.take 20 21 (oi := ?_) (v := ?_) ?_ (by kernel_rfl) (fun _ _ _ h => h) hH6 ?_ ?_ ?_
  rotate_left 2
  · simp only [List.getElem?_toArray, List.getElem?_cons_succ, List.getElem?_cons_zero]
    exact rfl
  · rfl
  · intro w hSw
    (try dsimp only at hSw)
    go_simp
    try with_reducible rfl
  try simp only [Act.put, List.setIfInBounds_toArray, List.set_cons_zero, List.set_cons_succ]
  refine Hd.take 21 22 (oi := ?_) (v := ?_) ?_ (by kernel_rfl) (fun _ _ _ h => h) hH6 ?_ ?_ ?_
  rotate_left 2
  · simp only [List.getElem?_toArray, List.getElem?_cons_succ, List.getElem?_cons_zero]
    exact rfl
  · rfl
  · intro w hSw
    (try dsimp only at hSw)
    go_simp
    try with_reducible rfl
  try simp only [Act.put, List.setIfInBounds_toArray, List.set_cons_zero, List.set_cons_succ]
  refine Hd.last 22 (o := ?_) ?_ (by kernel_rfl) (by kernel_rfl) (by kernel_rfl) (fun K hK => ?_)
  rotate_left 1
  · simp only [List.getElem?_toArray, List.getElem?_cons_succ, List.getElem?_cons_zero]
    exact rfl
  go_simp
  refine hK.out _ _ ?_
  clear hK K
  try simp only [Act.put, List.setIfInBounds_toArray, List.set_cons_zero, List.set_cons_succ]
  simp only [NoPanic]
  go_wp2_with fail
  go_ret
  exact ⟨by simp, HFIN.out _ HBW11.out⟩
end Tr
end Go.Proofs.YtfbhokdcnjekiaaGreatDoor
