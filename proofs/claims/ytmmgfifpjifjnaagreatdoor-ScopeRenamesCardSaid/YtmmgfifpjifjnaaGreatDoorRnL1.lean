/- The law ScopeRenames (wip/gen/gen_rnl1.py prints this). -/
import Derived.Test.YtmmgfifpjifjnaaGreatDoorRnB
import Derived.Test.YtmmgfifpjifjnaaGreatDoorRnA
import Derived.Test.YtmmgfifpjifjnaaGreatDoorRnC
import Derived.Test.YtmmgfifpjifjnaaGreatDoorRvG
import Derived.Deep.DeepCutAuto
set_option linter.unusedVariables false
namespace Go.Proofs.YtmmgfifpjifjnaaGreatDoor
open Go.RowKit
namespace Rv
open Bs Sm Tr
def nmK (M : Mt) (k : Nat) : List Lx.Bytes := M.params ++ M.temps ++ ((allL M.body).take k).flatMap (·.names)
theorem nmK_zero (M : Mt) : nmK M 0 = M.params ++ M.temps := by unfold nmK; rw [List.take_zero]; simp
theorem nmK_succ {M : Mt} {k : Nat} {x : Nd} (h : (allL M.body)[k]? = some x) : nmK M (k + 1) = nmK M k ++ x.names := by
 unfold nmK; rw [takeI_snoc' h, List.flatMap_append]; simp
theorem nmK_len {M : Mt} (k : Nat) (h : ∀ x ∈ allL M.body, x.names.length ≤ 9) : (nmK M k).length ≤ M.params.length + M.temps.length + 9 * k := by
 induction k with
 | zero => rw [nmK_zero]; simp
 | succ k ih =>
  by_cases hk : k < (allL M.body).length
  · rw [nmK_succ (List.getElem?_eq_getElem hk), List.length_append]
    have := h _ (List.getElem_mem hk)
    omega
  have e : nmK M (k + 1) = nmK M k := by unfold nmK; rw [List.take_of_length_le (by omega), List.take_of_length_le (by omega)]
  rw [e]; omega
theorem own_setfar {B T sz n k i : Nat} {v u : Value} {xs : List Value} {w : World} (h : w.ownsRow B T sz v n xs) (hne : v.ownBlock ≠ some k) : (w.setCell ⟨k, i, none⟩ u).ownsRow B T sz v n xs := by
 obtain ⟨e1, e2⟩ := h
 refine ⟨e1, ?_⟩
 rcases e2 with hn | ⟨g, cap, cur, rfl, hb, hg, rest⟩
 · exact .inl hn
 exact .inr ⟨g, cap, cur, rfl, hb, (Below.heap_setCell w ⟨k, i, none⟩ u g (fun e => hne (by subst e; rfl))).trans hg, rest⟩
theorem wpList_rdk {α : Type} {f : α → Value} {S : Nat → Prop} (hf : ∀ x, (f x).oneCell' = true) {P : Program} (w : World) {ops : Array Oper} {rest : List Oper} {o : Oper} {a : Act} {Q : Exit → Act → World → Prop} (hw : Region.wanted o (yielded ops a.tmps) = true) (s x : Operand) (t e : TypeId)
  (hop : o.op = Op.call { callee := Callee.builtin Builtin.append, args := #[s, x], argTypes := #[t, t] }) (tsl : P.underlying t = some (.slice e)) (i0 : TypeInfo) (z : Value) (bytes : Nat)
  (h2 : P.info? e = some i0) (h3 : i0.zero = some z) (h4 : i0.size = 1) (h5 : i0.bytes = bytes) (h6 : z.cells.size = 1) {B0 n : Nat} {v xv : Value} {xs : List Value} {l : List α}
  (hd : w.ownsRow B0 e 1 v n xs) (hs : a.eval s = v) (hx : a.eval x = xv) (hsrc : Rd S f w xv l) (b1 : n + l.length ≤ maxLen) (b2 : (n + l.length) * bytes ≤ 140737488355328) (hB : B0 ≤ w.heap.size)
  (hK : ∀ v' w', w'.ownsRow B0 e 1 v' (n + l.length) (xs ++ l.map f) → w.grownBy w' v.ownBlock → (v'.ownBlock = v.ownBlock ∨ v'.ownBlock = some w.heap.size) → w'.ownsRow B0 e 1 v n xs → wpList P ops Q rest (a.put o.dst v') w') :
  wpList P ops Q (o :: rest) a w := by
 refine Go.BigFrame.wpList_want hw fun K' hK' => ?_
 obtain ⟨v', w', hrun, r1, r2, r3, r4⟩ := run_rdk hf t o.type e tsl i0 z bytes h2 h3 h4 h5 h6 hd hsrc b1 b2 hB
 unfold Oper.wp
 simp [execOp, hop, resolve, invoke, builtin, hs, hx, hrun, Result.andThen]
 exact hK' _ _ (hK v' w' r1 r2 r3 r4)
set_option maxRecDepth 100000 in
set_option maxHeartbeats 3200000 in
theorem renames_walk (m : Mt) (pv tv bv fv gv : Value) (F G : List Lx.Bytes) (hin : ∀ x ∈ allL m.body, InI x) (w : World) (hm : MtAt (fun _ => True) w m pv tv bv) (hf : Rd (fun _ => True) strV w fv F) (hg : Rd (fun _ => True) strV w gv G) (herr : Lx.ErrVar w) :
  Calls Tryz.prog 4 #[mtV m pv tv bv, .agg #[fv, gv]] w (Back (.bool true) w) := by
 have hmB := hm.mono (S' := fun b => b < w.heap.size) (fun b _ hl => hl)
 have hfB := hf.mono (S' := fun b => b < w.heap.size) (fun b _ hl => hl)
 have hgB := hg.mono (S' := fun b => b < w.heap.size) (fun b _ hl => hl)
 obtain ⟨pa0, pc0, ta0, tc0, ba0, bc0, rfl, rfl, rfl⟩ := hm.form
 obtain ⟨fa, fc, rfl, hfl, hfm⟩ := hf.form
 obtain ⟨ga, gc, rfl, hgl, hgm⟩ := hg.form
 obtain ⟨M, hM⟩ : ∃ M, cutM m = M := ⟨_, rfl⟩
 have hmild : Mild M.body := by rw [← hM]; exact few_mild m.body hin 60
 have hpl15 : M.params.length ≤ 15 := by rw [← hM]; show (m.params.take 15).length ≤ 15; rw [List.length_take]; omega
 have htl15 : M.temps.length ≤ 15 := by rw [← hM]; show (m.temps.take 15).length ≤ 15; rw [List.length_take]; omega
 have hX := (alloc_bel w (.cells #[.string ⟨m.name.toArray⟩, .slice pa0 m.params.length pc0, .slice ta0 m.temps.length tc0, .int .i64 m.prim, .slice ba0 m.body.length bc0, .int .i64 m.at_] 25)).trans ((alloc_bel (w.alloc (.cells #[.string ⟨m.name.toArray⟩, .slice pa0 m.params.length pc0, .slice ta0 m.temps.length tc0, .int .i64 m.prim, .slice ba0 m.body.length bc0, .int .i64 m.at_] 25)) (.cells #[.slice fa F.length fc, .slice ga G.length gc] 27)).mono (by simp))
 have hk := (Blk.made (T := 25) (cs := #[.string ⟨m.name.toArray⟩, .slice pa0 m.params.length pc0, .slice ta0 m.temps.length tc0, .int .i64 m.prim, .slice ba0 m.body.length bc0, .int .i64 m.at_]) w).below (alloc_bel _ (.cells #[.slice fa F.length fc, .slice ga G.length gc] 27)) (by simp)
 have hq := Blk.made (T := 27) (cs := #[.slice fa F.length fc, .slice ga G.length gc]) (w.alloc (.cells #[.string ⟨m.name.toArray⟩, .slice pa0 m.params.length pc0, .slice ta0 m.temps.length tc0, .int .i64 m.prim, .slice ba0 m.body.length bc0, .int .i64 m.at_] 25))
 have hs1 : (w.alloc (.cells #[.string ⟨m.name.toArray⟩, .slice pa0 m.params.length pc0, .slice ta0 m.temps.length tc0, .int .i64 m.prim, .slice ba0 m.body.length bc0, .int .i64 m.at_] 25)).heap.size = w.heap.size + 1 := by simp
 rw [hs1] at hq
 have HAW := Lib.hid (fun v (hv : Below w.heap.size w v) => awake_any v (herr.below hv))
 have HM := Lib.hid hM
 have HMI := Lib.hid hmild
 clear hm hf hg herr hM hmild hin hs1
 unfold mtV
 go_enter Tryz.func4, Tryz.ntmps4
 go_upto_region 1 with fail
 obtain ⟨W0, hal⟩ : ∃ W, (w.alloc (.cells #[.string ⟨m.name.toArray⟩, .slice pa0 m.params.length pc0, .slice ta0 m.temps.length tc0, .int .i64 m.prim, .slice ba0 m.body.length bc0, .int .i64 m.at_] 25)).alloc (.cells #[.slice fa F.length fc, .slice ga G.length gc] 27) = W := ⟨_, rfl⟩
 rw [hal] at hX hk hq ⊢
 obtain ⟨KM, hKM⟩ : ∃ b, w.heap.size = b := ⟨_, rfl⟩
 rw [hKM] at hk hq hX hmB hfB hgB ⊢
 clear hal
 have HX := Lib.hid hX
 have HK := Lib.hid hk
 have HQ := Lib.hid hq
 have HMB := Lib.hid hmB
 have HFB := Lib.hid hfB
 have HGB := Lib.hid hgB
 clear hX hk hq hmB hfB hgB
 go_wp2_with fail
 refine (HAW.out _ (by rw [hKM]; exact HX.out)).mono ?_; rintro e w1 ⟨rfl, hb1⟩
 have HB1 := Lib.hid (HX.out.trans (hb1.mono (by have := HX.out.size; omega)))
 have hk1 := HK.out.below hb1 HK.out.lt
 have HQ1 := Lib.hid (HQ.out.below hb1 HQ.out.lt)
 have hkm := hk1.lt
 have HCUT := Lib.hid (cutm_any KM m _ _ _ w1 (by omega) (HMB.out.kp (Kp.lt HB1.out)))
 rw [HM.out] at HCUT
 unfold mtV at HCUT
 have c0 := hk1.c 0 _ rfl
 have c1 := hk1.c 1 _ rfl
 have c2 := hk1.c 2 _ rfl
 have c3 := hk1.c 3 _ rfl
 have c4 := hk1.c 4 _ rfl
 have c5 := hk1.c 5 _ rfl
 have HK1 := Lib.hid hk1
 clear hb1 hk1 HK HQ HX
 go_wp2_with fail
 refine HCUT.out.mono ?_; rintro e w2 ⟨hb2, pv', tv', bv', rfl, hm2⟩
 obtain ⟨pa, pc, ta, tc, ba, bc, rfl, rfl, rfl⟩ := hm2.form
 have hk2 := HK1.out.below hb2 HK1.out.lt
 have hq2 := HQ1.out.below hb2 HQ1.out.lt
 have hf := hk2.fz
 have hlt := hk2.lt
 have e0 := hk2.c 0 _ rfl
 have e1 := hk2.c 1 _ rfl
 have e2 := hk2.c 2 _ rfl
 have e3 := hk2.c 3 _ rfl
 have e4 := hk2.c 4 _ rfl
 have e5 := hk2.c 5 _ rfl
 have HB02 := Lib.hid (HB1.out.trans (hb2.mono (by omega)))
 have HK2 := Lib.hid hk2
 have HQ2 := Lib.hid hq2
 have HM2 := Lib.hid hm2
 clear c0 c1 c2 c3 c4 c5 hk2 hm2 hq2 hb2 HCUT HK1 HQ1 HB1
 go_upto_region 4 with fail
 generalize hW3 : World.setCell _ _ _ = W3
 obtain ⟨pl, hpl⟩ : ∃ n, M.params.length = n := ⟨_, rfl⟩
 obtain ⟨tl, htl⟩ : ∃ n, M.temps.length = n := ⟨_, rfl⟩
 obtain ⟨bl, hbl⟩ : ∃ n, M.body.length = n := ⟨_, rfl⟩
 rw [hpl, htl, hbl] at HM2 hW3
 have htwo : Two KM KM w2 W3 := by rw [← hW3]; exact six_two _ _ _ _ _ _ _
 have hk3 : Blk 25 KM #[.string ⟨M.name.toArray⟩, .slice pa pl pc, .slice ta tl tc, .int .i64 M.prim, .slice ba bl bc, .int .i64 M.at_] W3 := by rw [← hW3]; exact six HK2.out _ _ _ _ _ _
 have HQ3 := Lib.hid (htwo.blk HQ2.out (by omega))
 have hm3 := (HM2.out.two htwo (fun b hb => by omega)).mono (S' := fun _ => True) (fun _ _ _ => trivial)
 have HB03 := Lib.hid (htwo.bel HB02.out (Nat.le_refl _))
 have HK3 := Lib.hid hk3
 have HM3 := Lib.hid hm3
 have HPL := Lib.hid hpl
 have HTL := Lib.hid htl
 have HBL := Lib.hid hbl
 have hkm3 := hk3.lt
 have hqm3 := HQ3.out.lt
 clear hW3 htwo hk3 hm3 HM2 HK2 HQ2 HB02 hf hlt hpl htl hbl e0 e1 e2 e3 e4 e5 hkm
 obtain ⟨iI, hiI, hI0, hI1, hI2⟩ := info_parts (show (Tryz.prog.info? 9).map (fun i => (i.zero, i.size, i.bytes)) = some (some (.string ⟨#[]⟩), 1, 16) by kernel_rfl)
 have tI : Tryz.prog.underlying 22 = some (.slice 9) := by kernel_rfl
 have HADD : Hid (∀ (s : Lx.Bytes) (w : World), s.length ≤ 5000 → (Op.stringOp .add ⟨#[90]⟩ ⟨s.toArray⟩).run Tryz.prog w = .ok (.string ⟨(zB s).toArray⟩) w) := Lib.hid (fun s w hs => by
  rw [Go.run_string_add_sum _ _ _ (by show 1 + s.toArray.size ≤ _; simp; omega)]
  rfl)
 have HFIN : Hid (∀ v, Below W3.heap.size W3 v → Below KM w v) := Lib.hid (fun v hv => HB03.out.trans (hv.mono (by omega)))
 have hS : ∀ v, Below W3.heap.size W3 v → (v.cell? ⟨KM + 1, 0, none⟩ = some (.slice fa F.length fc) ∧ v.cell? ⟨KM + 1, 1, none⟩ = some (.slice ga G.length gc)) := fun v hv => by
  have h2 := HQ3.out.below hv HQ3.out.lt
  exact ⟨h2.c 0 _ rfl, h2.c 1 _ rfl⟩
 obtain ⟨F8, hF8⟩ : ∃ l, F.take 8 = l := ⟨_, rfl⟩
 obtain ⟨G8, hG8⟩ : ∃ l, G.take 8 = l := ⟨_, rfl⟩
 obtain ⟨f8, hf8⟩ : ∃ n, F8.length = n := ⟨_, rfl⟩
 obtain ⟨g8, hg8⟩ : ∃ n, G8.length = n := ⟨_, rfl⟩
 have hf88 : f8 ≤ 8 := by rw [← hf8, ← hF8, List.length_take]; omega
 have hg88 : g8 ≤ 8 := by rw [← hg8, ← hG8, List.length_take]; omega
 have hFW : ∀ v, Below W3.heap.size W3 v → Calls Tryz.prog 8 #[.slice fa F.length fc, .int .i64 8] v (fun e w' => Below v.heap.size v w' ∧ ∃ xa xc, e = .returned (.slice xa f8 xc) ∧ w'.ownsRow v.heap.size 9 1 (.slice xa f8 xc) f8 (F8.map strV)) := fun v hv => by
  refine (few_own (.slice fa F.length fc) F v ((HFB.out.kp (Kp.lt (HFIN.out v hv))).mono (fun _ _ _ => trivial))).mono ?_
  rintro e w' ⟨hb, v', rfl, hr⟩
  rw [hF8, hf8] at hr
  obtain ⟨xa, xc, rfl, -⟩ := own_slice hr
  exact ⟨hb, xa, xc, rfl, hr⟩
 have hGW : ∀ v, Below W3.heap.size W3 v → Calls Tryz.prog 8 #[.slice ga G.length gc, .int .i64 8] v (fun e w' => Below v.heap.size v w' ∧ ∃ xa xc, e = .returned (.slice xa g8 xc) ∧ w'.ownsRow v.heap.size 9 1 (.slice xa g8 xc) g8 (G8.map strV)) := fun v hv => by
  refine (few_own (.slice ga G.length gc) G v ((HGB.out.kp (Kp.lt (HFIN.out v hv))).mono (fun _ _ _ => trivial))).mono ?_
  rintro e w' ⟨hb, v', rfl, hr⟩
  rw [hG8, hg8] at hr
  obtain ⟨xa, xc, rfl, -⟩ := own_slice hr
  exact ⟨hb, xa, xc, rfl, hr⟩
 obtain ⟨R, hR⟩ : ∃ R, resR F8 G8 M = R := ⟨_, rfl⟩
 have HFW := Lib.hid hFW
 have HGW := Lib.hid hGW
 have Hf8 := Lib.hid hf8
 have Hg8 := Lib.hid hg8
 have HR := Lib.hid hR
 clear hFW hGW hF8 hG8 hf8 hg8 hR HAW HM HMB HFB HGB
 have HBW : Hid (Below W3.heap.size W3 W3.drew) := Lib.hid (Below.refl _ W3).drew
 refine wp_region_noPanic ?_
 refine Hd.start (fun v => v.cell? ⟨KM + 1, 0, none⟩ = some (.slice fa F.length fc) ∧ v.cell? ⟨KM + 1, 1, none⟩ = some (.slice ga G.length gc)) (by kernel_rfl) (hS _ HBW.out) (fun hH0 => ?_)
 obtain ⟨wd, hwd⟩ : ∃ W, W3.drew = W := ⟨_, rfl⟩
 rw [hwd] at HBW hH0 ⊢
 clear hwd
 have HB := HBW
 clear HBW
 refine Hd.tk 0 1 hH0 ?_
 refine Hd.tk 1 2 hH0 ?_
 refine Hd.tk 3 4 hH0 ?_
 refine Hd.tk 4 5 hH0 ?_
 refine Hd.on 2 (fun K hK => ?_)
 go_simp
 refine (HFW.out _ HB.out).mono ?_; rintro e w2 ⟨hbd, xa, xc, rfl, hro⟩
 have hs2 := HB.out.size
 have HRF := Lib.hid (own_mono hro hs2)
 replace HB := Lib.hid (HB.out.trans (hbd.mono HB.out.size))
 clear hbd hro
 go_wp2_with fail
 refine hK.out _ _ (hS _ HB.out) (fun hH1 => ?_)
 clear hK K
 try simp only [Act.put, Hd.sa, Hd.sz, Hd.ss]
 refine Hd.on 5 (fun K hK => ?_)
 go_simp
 refine (HGW.out _ HB.out).mono ?_; rintro e w5 ⟨hbd, ya, yc, rfl, hro⟩
 have HRF5 := Lib.hid (own_below HRF.out hbd)
 have hfl5 := HRF.out.lt
 have hgl5 := hro.lt
 have HRG := Lib.hid hro
 have hsz5 := hbd.size
 replace HB := Lib.hid (HB.out.trans (hbd.mono HB.out.size))
 clear hbd hro
 go_wp2_with fail
 refine hK.out _ _ (hS _ HB.out) (fun hH2 => ?_)
 clear hK K
 try simp only [Act.put, Hd.sa, Hd.sz, Hd.ss]
 refine Hd.tk 6 7 hH2 ?_
 refine Hd.la 7 (fun K hK => ?_)
 go_simp
 refine hK.out _ _ ?_
 clear hK K
 try simp only [Act.put, Hd.sa, Hd.sz, Hd.ss]
 simp only [NoPanic]
 clear hS hH0 hH1 hH2 HFW HGW HRF
 have hgr := Rd.of (show w5.ownsRow w2.heap.size 9 1 (.slice ya g8 yc) G8.length (G8.map strV) by rw [Hg8.out]; exact HRG.out)
 have HGR := Lib.hid hgr
 have hszB := HB.out.size
 clear hgr
 go_wp2_with (at_builtin; refine wpList_rdk (S := fun b => w2.heap.size ≤ b) (f := strV) (fun _ => rfl) _ ?hw1 _ _ 22 9 rfl tI iI (.string ⟨#[]⟩) 16 hiI hI0 hI1 hI2 rfl HRF5.out rfl rfl HGR.out ?c1 ?c2 ?c3 ?_)
 case c1 => rw [Hg8.out]; unfold maxLen; omega
 case c2 => rw [Hg8.out]; omega
 case c3 => exact hszB
 intro v6 w6 hown6 hg6 hat6 hkeep
 have hb6 := HB.out.grown hg6 HB.out.size (fun k hk => (hfl5 k hk).1)
 have hne : (Value.slice ya g8 yc).ownBlock = none ∨ (Value.slice ya g8 yc).ownBlock ≠ (Value.slice xa f8 xc).ownBlock := by
  cases hq : (Value.slice ya g8 yc).ownBlock with
  | none => exact .inl rfl
  | some k => exact .inr (fun e => by have h1 := hgl5 k hq; have h2 := hfl5 k e.symm; omega)
 have hrg6 := World.ownsRow.kept HRG.out hg6 hne
 obtain ⟨L8, hL8⟩ : ∃ l, F8 ++ G8 = l := ⟨_, rfl⟩
 obtain ⟨l8, hl8⟩ : ∃ q, L8.length = q := ⟨_, rfl⟩
 have hl8' : f8 + G8.length = l8 := by rw [← hl8, ← hL8, List.length_append, Hf8.out]
 rw [hl8', ← List.map_append, hL8] at hown6
 obtain ⟨va, vc, rfl, -⟩ := own_slice hown6
 have hl816 : l8 ≤ 16 := by have := Hg8.out; omega
 have HLR := Lib.hid (Rd.of (show w6.ownsRow W3.heap.size 9 1 (.slice va l8 vc) L8.length (L8.map strV) by rw [hl8]; exact hown6))
 have HFR : Hid (∀ v, Below w6.heap.size w6 v → Rd (fun _ => True) strV v (.slice xa f8 xc) F8) := Lib.hid (fun v hv => ((Rd.of (show w6.ownsRow W3.heap.size 9 1 (.slice xa f8 xc) F8.length (F8.map strV) by rw [Hf8.out]; exact hkeep)).below hv).mono (fun _ _ _ => trivial))
 have HGR6 : Hid (∀ v, Below w6.heap.size w6 v → Rd (fun _ => True) strV v (.slice ya g8 yc) G8) := Lib.hid (fun v hv => ((Rd.of (show w6.ownsRow w2.heap.size 9 1 (.slice ya g8 yc) G8.length (G8.map strV) by rw [Hg8.out]; exact hrg6)).below hv).mono (fun _ _ _ => trivial))
 have HB6 := Lib.hid hb6
 have HL8 := Lib.hid hL8
 have Hl8 := Lib.hid hl8
 clear hown6 hg6 hat6 hkeep hb6 hne hrg6 hL8 hl8 hl8' HRF5 HRG HGR HB hfl5 hgl5 hsz5 hszB hs2
 go_wp2_with fail
 go_loopw [38] (fun y wr => ∃ k : Nat, y = .int .i64 (k : Int) ∧ k ≤ l8 ∧ wr = w6 ∧ Hid (∀ i t, i < k → L8[i]? = some t → t.head? ≠ some 90)) (fun y _ => l8 - (intOf y).toNat)
 case atStart => exact ⟨0, rfl, Nat.zero_le _, rfl, Lib.hid (fun i t h => by omega)⟩
 obtain ⟨k, rfl, hk, hw, HZ⟩ := hrel
 subst hw
 by_cases hkn : k < l8
 · have hdec : decide ((k : Int) < (l8 : Int)) = true := decide_eq_true (by omega)
   have hkw : IntKind.i64.wrap ((k : Int) + 1) = (k : Int) + 1 := IntWalk.i64_in _ (by omega)
   have hrd := HLR.out
   obtain ⟨a', cap', e, -, -, -, hcl⟩ := hrd
   simp only [Value.slice.injEq] at e
   obtain ⟨rfl, -, -⟩ := e
   obtain ⟨g, off, rfl, -, -, hcl⟩ := hcl (by have := Hl8.out; omega)
   have hkl : k < L8.length := by have := Hl8.out; omega
   obtain ⟨t, ht⟩ : ∃ t, L8[k]? = some t := ⟨_, List.getElem?_eq_getElem hkl⟩
   have t0 := hcl k t ht
   unfold strV at t0
   have hb1 : (0 : Int) ≤ (k : Int) := by omega
   have hb2 : (k : Int) < (l8 : Int) := by omega
   have HZN : t.head? ≠ some 90 → Hid (∀ i u, i < k + 1 → L8[i]? = some u → u.head? ≠ some 90) := fun hh => Lib.hid (fun i u hi hu => by
    by_cases e : i = k
    · subst e; rw [ht] at hu; cases hu; exact hh
    exact HZ.out i u (by omega) hu)
   clear hcl ht
   cases t with
   | nil =>
    have HZ2 := HZN (by simp)
    clear HZN
    go_wp2_with fail
    exact ⟨⟨k + 1, by simp, by omega, by first | rfl | trivial, HZ2⟩, by simp only [intOf]; omega⟩
   | cons ch r =>
    by_cases hch : ch = 90
    · have hcc : (ch.toNat : Int) = 90 := by rw [hch]; rfl
      have hcd0 : ((ch.toNat : Int) == 90) = true := by rw [hcc]; rfl
      have hcd : (((((⟨(ch :: r).toArray⟩ : ByteArray)[0]'(by show 0 < (ch :: r).toArray.size; simp)).toNat : Nat) : Int) == 90) = true := hcd0
      clear hcd0
      clear HZN hch hcc
      go_wp2_with fail
      go_ret
      exact ⟨rfl, by rw [hKM]; exact HFIN.out _ HB6.out⟩
    have hcd0 : ((ch.toNat : Int) == 90) = false := by
     rw [beq_eq_false_iff_ne]
     intro h
     exact hch (UInt8.toNat_inj.1 (by have : ch.toNat = 90 := by omega
                                      rw [this]; rfl))
    have hcd : (((((⟨(ch :: r).toArray⟩ : ByteArray)[0]'(by show 0 < (ch :: r).toArray.size; simp)).toNat : Nat) : Int) == 90) = false := hcd0
    clear hcd0
    have HZ2 := HZN (by simp; exact hch)
    clear HZN hch
    go_wp2_with fail
    exact ⟨⟨k + 1, by simp, by omega, by first | rfl | trivial, HZ2⟩, by simp only [intOf]; omega⟩
 obtain rfl : k = l8 := by omega
 have hdec : decide ((k : Int) < (k : Int)) = false := by simp
 have hnoZ : (∀ t ∈ F8, t.head? ≠ some 90) ∧ ∀ t ∈ G8, t.head? ≠ some 90 := by
  have key : ∀ t ∈ L8, t.head? ≠ some 90 := fun t ht => by
   obtain ⟨i, hi, rfl⟩ := List.getElem_of_mem ht
   exact HZ.out i _ (by have := Hl8.out; omega) (List.getElem?_eq_getElem hi)
  rw [← HL8.out] at key
  exact ⟨fun t ht => key t (List.mem_append_left _ ht), fun t ht => key t (List.mem_append_right _ ht)⟩
 have HNZ := Lib.hid hnoZ
 clear hnoZ HZ HLR
 rename World => w6
 have hk6 := HK3.out.below HB6.out HK3.out.lt
 have c0 := hk6.c 0 _ rfl
 have c1 := hk6.c 1 _ rfl
 have c2 := hk6.c 2 _ rfl
 have c3 := hk6.c 3 _ rfl
 have c4 := hk6.c 4 _ rfl
 have c5 := hk6.c 5 _ rfl
 have hOWN : Calls Tryz.prog 9 #[.agg #[.string ⟨M.name.toArray⟩, .slice pa pl pc, .slice ta tl tc, .int .i64 M.prim, .slice ba bl bc, .int .i64 M.at_]] w6 (fun e w' => Below w6.heap.size w6 w' ∧ ∃ xa xc ya yc za zc, e = .returned (.agg #[.string ⟨M.name.toArray⟩, .slice xa pl xc, .slice ya tl yc, .int .i64 M.prim, .slice za bl zc, .int .i64 M.at_]) ∧ MtAt (fun _ => True) w' M (.slice xa pl xc) (.slice ya tl yc) (.slice za bl zc)) := by
  have h := own_any M HMI.out hpl15 htl15 _ _ _ w6 (HM3.out.bel HB6.out)
  unfold mtV at h
  refine h.mono ?_
  rintro e w' ⟨hb, pv4, tv4, bv4, rfl, hp4, ht4, hbd4⟩
  have hmx : MtAt (fun _ => True) w' M pv4 tv4 bv4 := ⟨hp4.mono (fun _ _ _ => trivial), ht4.mono (fun _ _ _ => trivial), hbd4.tree.mono (fun _ _ _ => trivial)⟩
  obtain ⟨xa, xc, ya, yc, za, zc, rfl, rfl, rfl⟩ := hmx.form
  rw [HPL.out, HTL.out, HBL.out] at hmx ⊢
  exact ⟨hb, xa, xc, ya, yc, za, zc, rfl, hmx⟩
 have hc9 : cntL M.body ≤ 100000 := by have := HMI.out.few; omega
 have hin9 : ∀ x ∈ allL M.body, InI x := fun x hx => (HMI.out.fair x hx).2.2
 have HOWN := Lib.hid hOWN
 have HC9 := Lib.hid hc9
 have HIN9 := Lib.hid hin9
 have HK6 := Lib.hid hk6
 clear hOWN hc9 hin9 hk6
 go_wp2_with fail
 refine HOWN.out.mono ?_; rintro e w9 ⟨hb9, oa, oc, ob, od, oe, og, rfl, hmo⟩
 have HRZ := Lib.hid (Resolve_any M _ _ _ _ _ F8 G8 w9 HC9.out HIN9.out hmo (HFR.out w9 hb9) (HGR6.out w9 hb9))
 rw [HR.out] at HRZ
 unfold mtV at HRZ
 have HB9 := Lib.hid hb9
 clear hb9 hmo HOWN HIN9 c0 c1 c2 c3 c4 c5
 go_wp2_with fail
 refine HRZ.out.mono ?_; rintro e w10 hre
 obtain ⟨hbd, s, a, sl, pr, ra, rn, rc, p, n, rfl, hrv⟩ := reso hre
 have hb10 := HB9.out.trans (hbd.mono HB9.out.size)
 have hsz10 := hb10.size
 have hX11 := alloc_bel w10 (.cells #[.string s, .int .i64 a, .int .i64 sl, .int .i64 pr, .slice ra rn rc] CDT)
 have hk11 := Blk.made (T := CDT) (cs := #[.string s, .int .i64 a, .int .i64 sl, .int .i64 pr, .slice ra rn rc]) w10
 have hrv11 := hrv.kp (Kp.of hX11)
 have hb11 := hb10.trans (hX11.mono hb10.size)
 have HRV := Lib.hid (hrv11.mono (S' := fun _ => True) (fun _ _ _ => trivial))
 have HKC := Lib.hid hk11
 have HB11 := Lib.hid hb11
 clear hre hbd hrv hb10 hX11 hk11 hrv11 hb11 HRZ HB9
 go_upto_region 12 with fail
 obtain ⟨W11, hal⟩ : ∃ X, w10.alloc (.cells #[.string s, .int .i64 a, .int .i64 sl, .int .i64 pr, .slice ra rn rc] CDT) = X := ⟨_, rfl⟩
 rw [hal] at HRV HKC HB11 ⊢
 obtain ⟨KC, hKC⟩ : ∃ q, w10.heap.size = q := ⟨_, rfl⟩
 rw [hKC] at HKC ⊢
 have hkc6 : w6.heap.size ≤ KC := by have := HB11.out.size; have h2 : W11.heap.size = w10.heap.size + 1 := (by rw [← hal]; simp); omega
 clear hal hKC
 cases R with
 | error E =>
  obtain ⟨p', n'⟩ := E
  have hrv := HRV.out
  unfold ResV at hrv
  obtain ⟨-, e2, -⟩ := hrv
  have hn := res_ne HR.out
  have g1 : (n != 0) = true := by rw [e2]; simpa using hn
  clear e2 hn HRV
  go_wp2_with fail
  go_ret
  exact ⟨rfl, by rw [hKM]; exact HFIN.out _ (HB6.out.trans (HB11.out.mono HB6.out.size))⟩
 | ok c =>
 have hrv := HRV.out
 unfold ResV at hrv
 obtain ⟨rfl, rfl, rfl, rfl, rfl, rfl, hits⟩ := hrv
 have HIT := Lib.hid hits
 have HCN : Hid (cntI c.body ≤ 100000) := Lib.hid (by have := res_cnt HR.out; have := HC9.out; omega)
 have hck := check_names (res_check HR.out)
 have HCK := Lib.hid hck
 have HPR : Hid (∀ v, Below w6.heap.size w6 v → Rd (fun b => b < w6.heap.size) strV v (.slice pa pl pc) M.params) := Lib.hid (fun v hv => ((HM3.out.bel HB6.out).params.mono (S' := fun b => b < w6.heap.size) (fun b _ h => h)).kp (Kp.lt hv))
 have HTR : Hid (∀ v, Below w6.heap.size w6 v → Rd (fun b => b < w6.heap.size) strV v (.slice ta tl tc) M.temps) := Lib.hid (fun v hv => ((HM3.out.bel HB6.out).temps.mono (S' := fun b => b < w6.heap.size) (fun b _ h => h)).kp (Kp.lt hv))
 have HTB : Hid (∀ v, Below w6.heap.size w6 v → Tree (fun b => b < w6.heap.size) v (.slice ba bl bc) M.body) := Lib.hid (fun v hv => ((HM3.out.bel HB6.out).body.mono (S' := fun b => b < w6.heap.size) (fun b _ h => h)).kp (Kp.lt hv))
 have HKM : Hid (∀ v, Below w6.heap.size w6 v → Blk 25 KM #[.string ⟨M.name.toArray⟩, .slice pa pl pc, .slice ta tl tc, .int .i64 M.prim, .slice ba bl bc, .int .i64 M.at_] v) := Lib.hid (fun v hv => HK6.out.below hv HK6.out.lt)
 have hsz116 : w6.heap.size ≤ W11.heap.size := HB11.out.size
 clear hits hck HRV HK6 HM3 HK3 HQ3
 go_upto_region 14 with fail
 have hS : ∀ v, Below W11.heap.size W11 v → (v.cell? ⟨KM, 1, none⟩ = some (.slice pa pl pc) ∧ v.cell? ⟨KM, 2, none⟩ = some (.slice ta tl tc)) := fun v hv => by
  have h := HKM.out v (HB11.out.trans (hv.mono hsz116))
  exact ⟨h.c 1 _ rfl, h.c 2 _ rfl⟩
 have HBW : Hid (Below W11.heap.size W11 W11.drew) := Lib.hid (Below.refl _ W11).drew
 refine wp_region_noPanic ?_
 refine Hd.start (fun v => v.cell? ⟨KM, 1, none⟩ = some (.slice pa pl pc) ∧ v.cell? ⟨KM, 2, none⟩ = some (.slice ta tl tc)) (by kernel_rfl) (hS _ HBW.out) (fun hH0 => ?_)
 obtain ⟨wd, hwd⟩ : ∃ W, W11.drew = W := ⟨_, rfl⟩
 rw [hwd] at HBW hH0 ⊢
 clear hwd
 refine Hd.tk 1 2 hH0 ?_
 refine Hd.tk 2 3 hH0 ?_
 refine Hd.tk 4 5 hH0 ?_
 refine Hd.tk 5 6 hH0 ?_
 have hX6 := alloc_bel wd (.cells #[] 9)
 have hE6 := World.ownsRow_made (e := 9) (size := 1) wd #[] 0 (Nat.le_refl _) (by unfold maxLen; omega) rfl
 refine Hd.on 0 (fun K hK => ?_)
 go_simp
 obtain ⟨w12, hw12⟩ : ∃ X, wd.alloc (.cells #[] 9) = X := ⟨_, rfl⟩
 rw [hw12] at hX6 hE6 ⊢
 have HB12 := Lib.hid (HBW.out.trans (hX6.mono HBW.out.size))
 have HE12 := Lib.hid (own_mono hE6 HBW.out.size)
 clear hX6 hE6 hw12
 refine hK.out _ _ (hS _ HB12.out) (fun hH1 => ?_)
 clear hK K
 try simp only [Act.put, Hd.sa, Hd.sz, Hd.ss]
 have HP12 := Lib.hid ((HPR.out _ (HB11.out.trans (HB12.out.mono hsz116))).mono (S' := fun _ => True) (fun _ _ _ => trivial))
 refine Hd.on 3 (fun K hK => ?_)
 refine step_rd (S := fun _ => True) (f := strV) (fun _ => rfl) rfl (.tmp 61) (.tmp 63) 22 9 rfl tI iI (.string ⟨#[]⟩) 16 hiI hI0 hI1 hI2 rfl (by exact HE12.out) (by simp [Act.eval]) (by simp [Act.eval]) HP12.out (by have := HPL.out; unfold maxLen; omega) (by have := HPL.out; omega) (by exact HB12.out.size) ?_
 intro v13 w13 hown13 hg13 _
 have HB13 := Lib.hid (HB12.out.grown hg13 HB12.out.size (fun k hk => (HE12.out.lt k hk).1))
 have HP13 := Lib.hid (show w13.ownsRow W11.heap.size 9 1 v13 M.params.length (M.params.map strV) by simpa using hown13)
 clear hown13 hg13
 refine hK.out _ _ (hS _ HB13.out) (fun hH2 => ?_)
 clear hK K
 try simp only [Act.put, Hd.sa, Hd.sz, Hd.ss]
 have HT13 := Lib.hid ((HTR.out _ (HB11.out.trans (HB13.out.mono hsz116))).mono (S' := fun _ => True) (fun _ _ _ => trivial))
 refine Hd.on 6 (fun K hK => ?_)
 refine step_rd (S := fun _ => True) (f := strV) (fun _ => rfl) rfl (.tmp 64) (.tmp 66) 22 9 rfl tI iI (.string ⟨#[]⟩) 16 hiI hI0 hI1 hI2 rfl (by exact HP13.out) (by simp [Act.eval]) (by simp [Act.eval]) HT13.out (by unfold maxLen; omega) (by omega) (by exact HB13.out.size) ?_
 intro v14 w14 hown14 hg14 _
 have HB14 := Lib.hid (HB13.out.grown hg14 HB13.out.size (fun k hk => (HP13.out.lt k hk).1))
 have HP14 := Lib.hid (show w14.ownsRow W11.heap.size 9 1 v14 (M.params ++ M.temps).length ((M.params ++ M.temps).map strV) by rw [List.length_append, List.map_append]; exact hown14)
 clear hown14 hg14
 refine hK.out _ _ (hS _ HB14.out) (fun hH3 => ?_)
 clear hK K
 try simp only [Act.put, Hd.sa, Hd.sz, Hd.ss]
 refine Hd.la 7 (fun K hK => ?_)
 go_simp
 refine hK.out _ _ ?_
 clear hK K
 try simp only [Act.put, Hd.sa, Hd.sz, Hd.ss]
 simp only [NoPanic]
 have HB146 : Hid (Below w6.heap.size w6 w14) := Lib.hid (HB11.out.trans (HB14.out.mono hsz116))
 have hsz14 : w6.heap.size ≤ w14.heap.size := HB146.out.size
 have y4 := (HKM.out _ HB146.out).c 4 _ rfl
 have HAL := Lib.hid (ralln_any M.body HC9.out w6.heap.size _ w14 hsz14 (HTB.out _ HB146.out))
 clear hS hH0 hH1 hH2 hH3 HE12 HP12 HT13 HP13 HB12 HB13 HBW
 go_wp2_with fail
 refine HAL.out.mono ?_; rintro e w15 ⟨hb15, v15, vl, rfl, hvl, hrow, hnil, hone, hnms⟩
 obtain ⟨q15, hq15⟩ : ∃ q, vl.length = q := ⟨_, rfl⟩
 rw [hq15] at hrow
 have hq201 : q15 ≤ 201 := by
  have h := congrArg List.length hvl
  rw [List.length_map, allL_len] at h
  have := HMI.out.few
  omega
 have hlt14 := HP14.out.lt
 have HP15 := Lib.hid (own_below HP14.out hb15)
 have HB15 := Lib.hid (HB14.out.trans (hb15.mono HB14.out.size))
 have hsz15 := hb15.size
 have hszA : W11.heap.size ≤ w14.heap.size := HB14.out.size
 have HVL := Lib.hid hvl
 have HQ15 := Lib.hid hq15
 have HROW := Lib.hid hrow
 have HNMS := Lib.hid hnms
 have HONE := Lib.hid hone
 obtain ⟨xa15, xc15, rfl, -⟩ := own_slice hrow
 clear hb15 hvl hq15 hrow hnil hone hnms HP14 HAL y4 HB14 HB146
 have HB11' := HB11
 clear HB11
 go_wp2_with fail
 go_loopw [12, 72] (fun o y wr => ∃ k : Nat, y = .int .i64 (k : Int) ∧ k ≤ q15 ∧ Hid (wr.ownsRow W11.heap.size 9 1 o (nmK M k).length ((nmK M k).map strV)) ∧ Hid (Below W11.heap.size W11 wr) ∧ Hid (Kp (fun b => b < W11.heap.size ∨ w14.heap.size ≤ b) w15 wr) ∧ Hid (∀ j, o.ownBlock = some j → j < w14.heap.size ∨ w15.heap.size ≤ j)) (fun _ y _ => q15 - (intOf y).toNat)
 case atStart => exact ⟨0, rfl, Nat.zero_le _, Lib.hid (by rw [nmK_zero]; exact HP15.out), HB15, Lib.hid ⟨Nat.le_refl _, fun _ _ _ => rfl⟩, Lib.hid (fun j hj => .inl (hlt14 j hj).2)⟩
 obtain ⟨k, rfl, hk, HOr, HBr, HKr, HJr⟩ := hrel
 rename World => wS
 by_cases hkq : k < q15
 · have hdec2 : decide ((k : Int) < (q15 : Int)) = true := decide_eq_true (by omega)
   have hkw2 : IntKind.i64.wrap ((k : Int) + 1) = (k : Int) + 1 := IntWalk.i64_in _ (by omega)
   obtain ⟨g15, cap15, hg15, hgl, hgh⟩ := HROW.out.form (by omega)
   obtain ⟨z, hz⟩ : ∃ z, vl[k]? = some z := ⟨_, List.getElem?_eq_getElem (by have := HQ15.out; omega)⟩
   obtain ⟨nd, kv, nv⟩ := z
   have hmem := HNMS.out _ (List.mem_of_getElem? hz)
   simp only at hmem
   obtain ⟨⟨kka, kkn, kkc, rfl⟩, hmem⟩ := hmem
   obtain ⟨na, nc, rfl, -, -⟩ := hmem.form
   have hnd : (allL M.body)[k]? = some nd := by rw [← HVL.out, List.getElem?_map, hz]; rfl
   have hfair := (HMI.out.fair nd (List.mem_of_getElem? hnd))
   have hn9 : nd.names.length ≤ 9 := hfair.2.1
   have HNK := Lib.hid (nmK_succ (M := M) hnd)
   have hlk : (nmK M k).length ≤ 4000 := by have h := nmK_len (M := M) k (fun x hx => (HMI.out.fair x hx).2.1) ; have := HPL.out; have := HTL.out; omega
   simp only [Value.slice.injEq] at hg15
   obtain ⟨rfl, -, -⟩ := hg15
   have hcell : ∀ j u, (ndC nd (.slice kka kkn kkc) (.slice na nd.names.length nc))[j]? = some u → wS.cell? ⟨g15, k * 6 + j, none⟩ = some u := fun j u hj => by
    have h := World.ownsRow.cells HROW.out (g := g15) rfl (k * 6 + j) u (flatN_get vl k _ j u hz hj)
    have e : (⟨g15, 0, none⟩ : Addr).add (k * 6 + j) = ⟨g15, k * 6 + j, none⟩ := by unfold Addr.add; split <;> simp_all
    rw [e] at h
    exact (HKr.out.cell (S := fun b => b < W11.heap.size ∨ w14.heap.size ≤ b) (.inr hgl) hgh _).trans h
   have c0 : wS.cell? ⟨g15, k * 6, none⟩ = some (.int .i64 nd.kind) := hcell 0 _ rfl
   have c1 : wS.cell? ⟨g15, k * 6 + 1, none⟩ = some (.string ⟨nd.name.toArray⟩) := hcell 1 _ rfl
   have c2 : wS.cell? ⟨g15, k * 6 + 2, none⟩ = some (.int .i64 nd.num) := hcell 2 _ rfl
   have c3 : wS.cell? ⟨g15, k * 6 + 3, none⟩ = some (.slice kka kkn kkc) := hcell 3 _ rfl
   have c4 : wS.cell? ⟨g15, k * 6 + 4, none⟩ = some (.slice na nd.names.length nc) := hcell 4 _ rfl
   have c5 : wS.cell? ⟨g15, k * 6 + 5, none⟩ = some (.int .i64 nd.at_) := hcell 5 _ rfl
   have hb1 : (0 : Int) ≤ (k : Int) := by omega
   have hb2 : (k : Int) < (q15 : Int) := by omega
   have HNR := Lib.hid ((hmem.mono (S' := fun b => b < W11.heap.size ∨ w14.heap.size ≤ b) (fun b hb _ => .inl (by omega))).kp HKr.out)
   clear hcell hz hmem hnd hfair
   have hszS := HBr.out.size
   have hszK := HKr.out.1
   have hJr := HJr.out
   have hor := HOr.out
   go_wp2_with (at_builtin; refine wpList_rd (S := fun b => b < W11.heap.size ∨ w14.heap.size ≤ b) (f := strV) (fun _ => rfl) _ ?hw2 _ _ 22 9 rfl tI iI (.string ⟨#[]⟩) 16 hiI hI0 hI1 hI2 rfl (own_below hor (alloc_bel _ _)) rfl rfl (HNR.out.below (alloc_bel _ _)) ?d1 ?d2 ?d3 ?_)
   case d1 => unfold maxLen; omega
   case d2 => omega
   case d3 => simp; omega
   intro v17 w17 hown17 hg17 hat17
   have hol := hor.lt
   have HO17 := Lib.hid (show w17.ownsRow W11.heap.size 9 1 v17 (nmK M (k + 1)).length ((nmK M (k + 1)).map strV) by rw [HNK.out, List.length_append, List.map_append]; exact hown17)
   have HB17 := Lib.hid ((HBr.out.alloc hszS _).grown hg17 (by simp; omega) (fun k hk => (hol k hk).1))
   have HK17 : Hid (Kp (fun b => b < W11.heap.size ∨ w14.heap.size ≤ b) w15 w17) := Lib.hid ⟨by have h := hg17.size; simp at h; omega, fun b hb hl => by
    have hbS : b < wS.heap.size := by omega
    have h1 := hg17.block b (by simp; omega) (fun e => by have h3 := hol b e.symm; have h4 := hJr b e.symm; omega)
    have h2 := (alloc_bel wS (.cells #[.int .i64 nd.kind, .string ⟨nd.name.toArray⟩, .int .i64 nd.num, .slice kka kkn kkc, .slice na nd.names.length nc, .int .i64 nd.at_] 53)).block b hbS
    exact (h1.trans h2).trans (HKr.out.2 b hb hl)⟩
   have HJ17 : Hid (∀ j, v17.ownBlock = some j → j < w14.heap.size ∨ w15.heap.size ≤ j) := Lib.hid (fun j hj => by
    rcases hat17 with h | h
    · exact hJr j (h ▸ hj)
    rw [hj] at h
    simp only [World.size_alloc, Option.some.injEq] at h
    exact .inr (by omega))
   clear hown17 hg17 hat17 hol hor hJr HNR c0 c1 c2 c3 c4 c5
   go_wp2_with fail
   exact ⟨⟨k + 1, by simp, by omega, HO17, HB17, HK17, HJ17⟩, by simp only [intOf]; omega⟩
 obtain rfl : k = q15 := by omega
 have hdec2 : decide ((k : Int) < (k : Int)) = false := by simp
 obtain ⟨A, hA⟩ : ∃ A, nmK M k = A := ⟨_, rfl⟩
 obtain ⟨an, han⟩ : ∃ q, A.length = q := ⟨_, rfl⟩
 have hor := HOr.out
 rw [hA, han] at hor
 have hAM : A = namesM M := by
  rw [← hA]
  unfold nmK namesM
  rw [List.take_of_length_le (by rw [← HVL.out, List.length_map, HQ15.out]; exact Nat.le_refl _)]
 have han4 : an ≤ 4000 := by have h := nmK_len (M := M) k (fun x hx => (HMI.out.fair x hx).2.1) ; rw [hA, han] at h; have := HPL.out; have := HTL.out; omega
 obtain ⟨na, nc, rfl, -⟩ := own_slice hor
 have hrd18 := Rd.of (show wS.ownsRow W11.heap.size 9 1 (.slice na an nc) A.length (A.map strV) by rw [han]; exact hor)
 have HAR := Lib.hid hrd18
 have HAN := Lib.hid han
 have HAM := Lib.hid hAM
 have hne18 : ∀ t ∈ A, t ≠ [] := by
  rw [hAM]
  intro t ht
  unfold namesM at ht
  rcases List.mem_append.1 ht with ht | ht
  · exact HCK.out.1 t ht
  obtain ⟨x, hx, hxt⟩ := List.mem_flatMap.1 ht
  exact HCK.out.2 x hx t hxt
 have HNE18 := Lib.hid hne18
 have HBS := Lib.hid (HB11'.out.trans (HBr.out.mono hsz116))
 clear hA han hor hAM hrd18 hne18 HOr HKr HJr HVL HROW HNMS HONE HP15 hlt14
 go_wp2_with fail
 go_loopw [83] (fun y wr => ∃ k2 : Nat, y = .int .i64 (k2 : Int) ∧ k2 ≤ an ∧ wr = wS ∧ Hid (∀ i t, i < k2 → A[i]? = some t → t.length ≤ 60 ∧ t.head? ≠ some 90)) (fun y _ => an - (intOf y).toNat)
 case atStart => exact ⟨0, rfl, Nat.zero_le _, rfl, Lib.hid (fun i t h => by omega)⟩
 obtain ⟨k2, rfl, hk2, hw2, HZ⟩ := hrel
 subst hw2
 by_cases hkn2 : k2 < an
 · have hdec3 : decide ((k2 : Int) < (an : Int)) = true := decide_eq_true (by omega)
   have hkw3 : IntKind.i64.wrap ((k2 : Int) + 1) = (k2 : Int) + 1 := IntWalk.i64_in _ (by omega)
   have hrd := HAR.out
   obtain ⟨a', cap', e, -, -, -, hcl⟩ := hrd
   simp only [Value.slice.injEq] at e
   obtain ⟨rfl, -, -⟩ := e
   obtain ⟨g, off, rfl, -, -, hcl⟩ := hcl (by have := HAN.out; omega)
   have hkl : k2 < A.length := by have := HAN.out; omega
   obtain ⟨t, ht⟩ : ∃ t, A[k2]? = some t := ⟨_, List.getElem?_eq_getElem hkl⟩
   have t0 := hcl k2 t ht
   unfold strV at t0
   have hb1 : (0 : Int) ≤ (k2 : Int) := by omega
   have hb2 : (k2 : Int) < (an : Int) := by omega
   have htn := HNE18.out t (List.mem_of_getElem? ht)
   have HZN : t.length ≤ 60 → t.head? ≠ some 90 → Hid (∀ i u, i < k2 + 1 → A[i]? = some u → u.length ≤ 60 ∧ u.head? ≠ some 90) := fun hl hh => Lib.hid (fun i u hi hu => by
    by_cases e : i = k2
    · subst e; rw [ht] at hu; cases hu; exact ⟨hl, hh⟩
    exact HZ.out i u (by omega) hu)
   clear hcl ht
   obtain ⟨tn, htl⟩ : ∃ q, t.length = q := ⟨_, rfl⟩
   have htl2 : (⟨t.toArray⟩ : ByteArray).size = tn := by rw [← htl]; show t.toArray.size = _; simp
   by_cases h60 : 60 < tn
   · have hd60 : decide ((60 : Int) < (tn : Int)) = true := decide_eq_true (by omega)
     clear HZN htn
     go_wp2_with fail
     go_ret
     exact ⟨rfl, by rw [hKM]; exact HFIN.out _ (HB6.out.trans (HBS.out.mono HB6.out.size))⟩
   have hd60 : decide ((60 : Int) < (tn : Int)) = false := decide_eq_false (by omega)
   cases t with
   | nil => exact absurd rfl htn
   | cons ch r =>
    clear htn
    have htp : 0 < tn := by rw [← htl]; simp
    have htpi : (0 : Int) < (tn : Int) := by omega
    by_cases hch : ch = 90
    · have hcc : (ch.toNat : Int) = 90 := by rw [hch]; rfl
      have hcd0 : ((ch.toNat : Int) == 90) = true := by rw [hcc]; rfl
      have hcd : (((((⟨(ch :: r).toArray⟩ : ByteArray)[0]'(by show 0 < (ch :: r).toArray.size; simp)).toNat : Nat) : Int) == 90) = true := hcd0
      clear hcd0 HZN hch hcc
      go_wp2_with fail
      go_ret
      exact ⟨rfl, by rw [hKM]; exact HFIN.out _ (HB6.out.trans (HBS.out.mono HB6.out.size))⟩
    have hcd0 : ((ch.toNat : Int) == 90) = false := by
     rw [beq_eq_false_iff_ne]
     intro h
     exact hch (UInt8.toNat_inj.1 (by have : ch.toNat = 90 := by omega
                                      rw [this]; rfl))
    have hcd : (((((⟨(ch :: r).toArray⟩ : ByteArray)[0]'(by show 0 < (ch :: r).toArray.size; simp)).toNat : Nat) : Int) == 90) = false := hcd0
    have HZ2 := HZN (by omega) (by simp; exact hch)
    clear hcd0 HZN hch
    go_wp2_with fail
    exact ⟨⟨k2 + 1, by simp, by omega, by first | rfl | trivial, HZ2⟩, by simp only [intOf]; omega⟩
 obtain rfl : k2 = an := by omega
 have hdec3 : decide ((k2 : Int) < (k2 : Int)) = false := by simp
 have hmod : ∀ t ∈ A, Mod t := fun t ht => by
  obtain ⟨i, hi, rfl⟩ := List.getElem_of_mem ht
  exact HZ.out i _ (by have := HAN.out; omega) (List.getElem?_eq_getElem hi)
 rw [HAM.out] at hmod
 have hmodP : ∀ t ∈ M.params ++ M.temps, Mod t := fun t ht => hmod t (by unfold namesM; exact List.mem_append_left _ ht)
 have hmodN : ∀ x ∈ allL M.body, ∀ t ∈ x.names, Mod t := fun x hx t ht => hmod t (by unfold namesM; exact List.mem_append_right _ (List.mem_flatMap.2 ⟨x, hx, ht⟩))
 have HMP := Lib.hid hmodP
 have HMN := Lib.hid hmodN
 clear hmod hmodP hmodN HZ HAR HNE18 HAM HAN
 rename World => wT
 have hszT : w6.heap.size ≤ wT.heap.size := HBS.out.size
 have hpl16 : pl ≤ 15 := by have := HPL.out; omega
 have htl16 : tl ≤ 15 := by have := HTL.out; omega
 have hkT := HKM.out _ HBS.out
 have c0 := hkT.c 0 _ rfl
 have c1 := hkT.c 1 _ rfl
 have c2 := hkT.c 2 _ rfl
 have c3 := hkT.c 3 _ rfl
 have c4 := hkT.c 4 _ rfl
 have c5 := hkT.c 5 _ rfl
 have hkTl := hkT.lt
 have hX26 := alloc_bel wT (.cells #[.string ⟨M.name.toArray⟩, .slice pa pl pc, .slice ta tl tc, .int .i64 M.prim, .slice ba bl bc, .int .i64 M.at_] 25)
 have hk26 := Blk.made (T := 25) (cs := #[.string ⟨M.name.toArray⟩, .slice pa pl pc, .slice ta tl tc, .int .i64 M.prim, .slice ba bl bc, .int .i64 M.at_]) wT
 clear hkT
 go_upto_region 27 with fail
 obtain ⟨W26, hal26⟩ : ∃ X, wT.alloc (.cells #[.string ⟨M.name.toArray⟩, .slice pa pl pc, .slice ta tl tc, .int .i64 M.prim, .slice ba bl bc, .int .i64 M.at_] 25) = X := ⟨_, rfl⟩
 rw [hal26] at hX26 hk26 ⊢
 have hs26 : W26.heap.size = wT.heap.size + 1 := by rw [← hal26]; simp
 obtain ⟨KN, hKN⟩ : ∃ q, wT.heap.size = q := ⟨_, rfl⟩
 rw [hKN] at hk26 hX26 hs26 hszT ⊢
 have n1 := hk26.c 1 _ rfl
 have n2 := hk26.c 2 _ rfl
 have nf := hk26.fz
 have HK26 := Lib.hid hk26
 have HX26 := Lib.hid hX26
 clear hal26 hk26 hX26 c0 c1 c2 c3 c4 c5
 go_upto_region 28 with fail
 obtain ⟨W27, hw27⟩ : ∃ X, (W26.setCell ⟨KN, 1, none⟩ (.slice none 0 0)).setCell ⟨KN, 2, none⟩ (.slice none 0 0) = X := ⟨_, rfl⟩
 rw [hw27]
 have HK27 := Lib.hid (show Blk 25 KN #[.string ⟨M.name.toArray⟩, .slice none 0 0, .slice none 0 0, .int .i64 M.prim, .slice ba bl bc, .int .i64 M.at_] W27 by rw [← hw27]; exact (HK26.out.set_ 1 _ _ rfl).set_ 2 _ _ rfl)
 have HB27 := Lib.hid (show Below KN wT W27 by rw [← hw27]; exact (HX26.out.setCell (p := ⟨KN, 1, none⟩) (Nat.le_refl KN) _).setCell (p := ⟨KN, 2, none⟩) (Nat.le_refl KN) _)
 have hs27 : W27.heap.size = KN + 1 := by rw [← hw27]; simp [World.setCell, hs26]
 obtain ⟨P2, hP2⟩ : ∃ l, M.params.map zB = l := ⟨_, rfl⟩
 obtain ⟨T2, hT2⟩ : ∃ l, M.temps.map zB = l := ⟨_, rfl⟩
 have HP2 := Lib.hid hP2
 have HT2 := Lib.hid hT2
 have HBW6 : Hid (∀ v, Below KN wT v → Below w6.heap.size w6 v) := Lib.hid (fun v hv => HBS.out.trans (hv.mono hszT))
 have y1 := (HKM.out _ (HBW6.out _ HB27.out)).c 1 _ rfl
 clear hw27 hs26 HK26 HX26 n1 n2 nf hP2 hT2
 go_wp2_with fail
 clear y1
 go_loopw [102] (fun y wr => ∃ (k3 : Nat) (na : Option Addr) (nc : Nat), y = .int .i64 (k3 : Int) ∧ k3 ≤ pl ∧ Hid (Blk 25 KN #[.string ⟨M.name.toArray⟩, .slice na k3 nc, .slice none 0 0, .int .i64 M.prim, .slice ba bl bc, .int .i64 M.at_] wr) ∧ Hid (wr.ownsRow (KN + 1) 9 1 (.slice na k3 nc) k3 ((P2.take k3).map strV)) ∧ Hid (Below KN wT wr) ∧ KN + 1 ≤ wr.heap.size) (fun y _ => pl - (intOf y).toNat)
 case atStart => exact ⟨0, none, 0, rfl, Nat.zero_le _, HK27, Lib.hid (by rw [List.take_zero]; exact World.ownsRow_nil _ _ _ _), HB27, by omega⟩
 obtain ⟨k3, na3, nc3, rfl, hk3, HKr3, HOr3, HBr3, hsr3⟩ := hrel
 rename World => wU
 by_cases hkp : k3 < pl
 · have hdec4 : decide ((k3 : Int) < (pl : Int)) = true := decide_eq_true (by omega)
   have hkw4 : IntKind.i64.wrap ((k3 : Int) + 1) = (k3 : Int) + 1 := IntWalk.i64_in _ (by omega)
   have hrd := HPR.out _ (HBW6.out _ HBr3.out)
   obtain ⟨a', cap', e, -, -, -, hcl⟩ := hrd
   simp only [Value.slice.injEq] at e
   obtain ⟨rfl, -, -⟩ := e
   obtain ⟨g, off, rfl, -, -, hcl⟩ := hcl (by have := HPL.out; omega)
   obtain ⟨t, ht⟩ : ∃ t, M.params[k3]? = some t := ⟨_, List.getElem?_eq_getElem (by have := HPL.out; omega)⟩
   have t0 := hcl k3 t ht
   unfold strV at t0
   have htl : t.length ≤ 5000 := by have := (HMP.out t (List.mem_append_left _ (List.mem_of_getElem? ht))).1; omega
   have hMt : P2[k3]? = some (zB t) := by rw [← HP2.out, List.getElem?_map, ht]; rfl
   have HMT := Lib.hid (takeI_snoc' hMt)
   have hadd := fun w => HADD.out t w htl
   have hb1 : (0 : Int) ≤ (k3 : Int) := by omega
   have hb2 : (k3 : Int) < (pl : Int) := by omega
   have hor := HOr3.out
   have n1 := HKr3.out.c 1 _ rfl
   have hknl := HKr3.out.lt
   clear hcl ht hMt
   go_wp2_with (at_builtin; refine wpList_append_own _ rfl _ _ 22 rfl (KN + 1) 9 iI (.string ⟨#[]⟩) 1 16 tI hiI hI0 hI1 hI2 rfl (by decide) _ _ _ rfl (hor.alloc _) ⟨wU.heap.size, 0, none⟩ 1 1 [.string ⟨(zB t).toArray⟩] rfl rfl ?pa1 ?pa2 ?pa3 ?pa4 ?pa5 ?_)
   case pa2 => rfl
   case pa3 => unfold maxLen; omega
   case pa4 => omega
   case pa5 => first | omega | (simp; omega)
   intro v' w31 hown' hgrow _
   have hol := hor.lt
   obtain ⟨nb, nd, rfl, -⟩ := own_slice hown'
   have hrow31 : w31.ownsRow (KN + 1) 9 1 (.slice nb (k3 + 1) nd) (k3 + 1) ((P2.take (k3 + 1)).map strV) := by rw [HMT.out, List.map_append, List.map_take]; exact hown'
   have hsg := hgrow.size
   simp only [World.size_alloc] at hsg
   have hk31 : Blk 25 KN #[.string ⟨M.name.toArray⟩, .slice na3 k3 nc3, .slice none 0 0, .int .i64 M.prim, .slice ba bl bc, .int .i64 M.at_] w31 := (hgrow.block KN (by simp; omega) (fun e => by have := hol KN e.symm; omega)).trans (HKr3.out.below (alloc_bel _ _) hknl)
   have HB31 := Lib.hid ((HBr3.out.alloc (by omega) _).grown hgrow (by simp; omega) (fun k hk => by have := hol k hk; omega))
   have hol31 := hrow31.lt
   have m1 := hk31.c 1 _ rfl
   have mf := hk31.fz
   have HR31 := Lib.hid hrow31
   have HK31 := Lib.hid hk31
   clear hown' hgrow hol hor hrow31 hk31 n1
   go_wp2_with fail
   exact ⟨⟨k3 + 1, nb, nd, by simp, by omega, Lib.hid (HK31.out.set_ 1 _ _ rfl), Lib.hid (own_setfar HR31.out (fun e => by have := hol31 KN e; omega)), Lib.hid (HB31.out.setCell (p := ⟨KN, 1, none⟩) (Nat.le_refl KN) _), by simp [World.setCell]; omega⟩, by simp only [intOf]; omega⟩
 obtain rfl : pl = k3 := by omega
 have hdec4 : decide ((pl : Int) < (pl : Int)) = false := by simp
 have hp2l : P2.length = pl := by rw [← HP2.out, List.length_map]; exact HPL.out
 have hrowP := HOr3.out
 rw [List.take_of_length_le (by omega)] at hrowP
 have hprP := Rd.of (show wU.ownsRow (KN + 1) 9 1 (.slice na3 pl nc3) P2.length (P2.map strV) by rw [hp2l]; exact hrowP)
 have HPP : Hid (∀ v, Kp (fun b => b ≠ KN) wU v → Rd (fun b => b ≠ KN) strV v (.slice na3 pl nc3) P2) := Lib.hid (fun v hv => (hprP.mono (S' := fun b => b ≠ KN) (fun b hb _ => by omega)).kp hv)
 have y2 := (HKM.out _ (HBW6.out _ HBr3.out)).c 2 _ rfl
 have HP2L := Lib.hid hp2l
 clear hp2l hrowP hprP HOr3
 go_wp2_with fail
 clear y2
 go_loopw [117] (fun y wr => ∃ (k4 : Nat) (nb : Option Addr) (nd : Nat), y = .int .i64 (k4 : Int) ∧ k4 ≤ tl ∧ Hid (Blk 25 KN #[.string ⟨M.name.toArray⟩, .slice na3 pl nc3, .slice nb k4 nd, .int .i64 M.prim, .slice ba bl bc, .int .i64 M.at_] wr) ∧ Hid (wr.ownsRow wU.heap.size 9 1 (.slice nb k4 nd) k4 ((T2.take k4).map strV)) ∧ Hid (Below KN wT wr) ∧ Hid (Kp (fun b => b ≠ KN) wU wr)) (fun y _ => tl - (intOf y).toNat)
 case atStart => exact ⟨0, none, 0, rfl, Nat.zero_le _, HKr3, Lib.hid (by rw [List.take_zero]; exact World.ownsRow_nil _ _ _ _), HBr3, Lib.hid ⟨Nat.le_refl _, fun _ _ _ => rfl⟩⟩
 obtain ⟨k4, nb4, nd4, rfl, hk4, HKr4, HOr4, HBr4, HKp4⟩ := hrel
 rename World => wV
 by_cases hkt4 : k4 < tl
 · have hdec5 : decide ((k4 : Int) < (tl : Int)) = true := decide_eq_true (by omega)
   have hkw5 : IntKind.i64.wrap ((k4 : Int) + 1) = (k4 : Int) + 1 := IntWalk.i64_in _ (by omega)
   have hrd := HTR.out _ (HBW6.out _ HBr4.out)
   obtain ⟨a', cap', e, -, -, -, hcl⟩ := hrd
   simp only [Value.slice.injEq] at e
   obtain ⟨rfl, -, -⟩ := e
   obtain ⟨g, off, rfl, -, -, hcl⟩ := hcl (by have := HTL.out; omega)
   obtain ⟨t, ht⟩ : ∃ t, M.temps[k4]? = some t := ⟨_, List.getElem?_eq_getElem (by have := HTL.out; omega)⟩
   have t0 := hcl k4 t ht
   unfold strV at t0
   have htl : t.length ≤ 5000 := by have := (HMP.out t (List.mem_append_right _ (List.mem_of_getElem? ht))).1; omega
   have hMt : T2[k4]? = some (zB t) := by rw [← HT2.out, List.getElem?_map, ht]; rfl
   have HMT := Lib.hid (takeI_snoc' hMt)
   have hadd := fun w => HADD.out t w htl
   have hb1 : (0 : Int) ≤ (k4 : Int) := by omega
   have hb2 : (k4 : Int) < (tl : Int) := by omega
   have hor := HOr4.out
   have n1 := HKr4.out.c 2 _ rfl
   have hknl := HKr4.out.lt
   have hszV := HKp4.out.1
   clear hcl ht hMt
   go_wp2_with (at_builtin; refine wpList_append_own _ rfl _ _ 22 rfl wU.heap.size 9 iI (.string ⟨#[]⟩) 1 16 tI hiI hI0 hI1 hI2 rfl (by decide) _ _ _ rfl (hor.alloc _) ⟨wV.heap.size, 0, none⟩ 1 1 [.string ⟨(zB t).toArray⟩] rfl rfl ?pb1 ?pb2 ?pb3 ?pb4 ?pb5 ?_)
   case pb2 => rfl
   case pb3 => unfold maxLen; omega
   case pb4 => omega
   case pb5 => first | omega | (simp; omega)
   intro v' w35 hown' hgrow _
   have hol := hor.lt
   obtain ⟨nb, nd, rfl, -⟩ := own_slice hown'
   have hrow35 : w35.ownsRow wU.heap.size 9 1 (.slice nb (k4 + 1) nd) (k4 + 1) ((T2.take (k4 + 1)).map strV) := by rw [HMT.out, List.map_append, List.map_take]; exact hown'
   have hsg := hgrow.size
   simp only [World.size_alloc] at hsg
   have hk35 : Blk 25 KN #[.string ⟨M.name.toArray⟩, .slice na3 pl nc3, .slice nb4 k4 nd4, .int .i64 M.prim, .slice ba bl bc, .int .i64 M.at_] w35 := (hgrow.block KN (by simp; omega) (fun e => by have := hol KN e.symm; omega)).trans (HKr4.out.below (alloc_bel _ _) hknl)
   have HB35 := Lib.hid ((HBr4.out.alloc (by omega) _).grown hgrow (by simp; omega) (fun k hk => by have := hol k hk; omega))
   have HKp35 : Hid (Kp (fun b => b ≠ KN) wU w35) := Lib.hid ⟨by omega, fun b hb hl => by
    have h1 := hgrow.block b (by simp; omega) (fun e => by have h3 := hol b e.symm; omega)
    have h2 := (alloc_bel wV (.cells #[.string ⟨(zB t).toArray⟩] 9)).block b (by omega)
    exact (h1.trans h2).trans (HKp4.out.2 b hb hl)⟩
   have hol35 := hrow35.lt
   have m1 := hk35.c 2 _ rfl
   have mf := hk35.fz
   have HR35 := Lib.hid hrow35
   have HK35 := Lib.hid hk35
   have hknU : KN < wU.heap.size := by omega
   clear hown' hgrow hol hor hrow35 hk35 n1
   go_wp2_with fail
   exact ⟨⟨k4 + 1, nb, nd, by simp, by omega, Lib.hid (HK35.out.set_ 2 _ _ rfl), Lib.hid (own_setfar HR35.out (fun e => by have := hol35 KN e; omega)), Lib.hid (HB35.out.setCell (p := ⟨KN, 2, none⟩) (Nat.le_refl KN) _), Lib.hid ⟨by have := HKp35.out.1; simpa [World.setCell] using this, fun b hb hl => (Below.heap_setCell _ ⟨KN, 2, none⟩ _ b hb).trans (HKp35.out.2 b hb hl)⟩⟩, by simp only [intOf]; omega⟩
 obtain rfl : tl = k4 := by omega
 have hdec5 : decide ((tl : Int) < (tl : Int)) = false := by simp
 have ht2l : T2.length = tl := by rw [← HT2.out, List.length_map]; exact HTL.out
 have hrowT := HOr4.out
 rw [List.take_of_length_le (by omega)] at hrowT
 have hprT := Rd.of (show wV.ownsRow wU.heap.size 9 1 (.slice nb4 tl nd4) T2.length (T2.map strV) by rw [ht2l]; exact hrowT)
 have HTT := Lib.hid (hprT.mono (S' := fun b => b ≠ KN) (fun b hb _ => by omega))
 have HPT := Lib.hid (HPP.out wV HKp4.out)
 clear ht2l hrowT hprT HOr4 HKp4 HPP HKr3 HBr3 HK27 HB27
 have hszV : KN + 1 ≤ wV.heap.size := by have := HKr4.out.lt; omega
 have HBV6 : Hid (∀ v, Below wV.heap.size wV v → Below w6.heap.size w6 v) := Lib.hid (fun v hv => HBW6.out _ (HBr4.out.trans (hv.mono (by omega))))
 have HKB : Hid (KN < wV.heap.size) := Lib.hid (by omega)
 have hk6N : w6.heap.size ≤ KN := hszT
 have y0 := HKr4.out.fz
 go_upto_region 38 with fail
 clear y0
 have hS : ∀ v, Below wV.heap.size wV v → (v.cell? ⟨KM, 1, none⟩ = some (.slice pa pl pc) ∧ v.cell? ⟨KM, 2, none⟩ = some (.slice ta tl tc) ∧ v.cell? ⟨KM, 4, none⟩ = some (.slice ba bl bc)) := fun v hv => by
  have h := HKM.out v (HBV6.out v hv)
  exact ⟨h.c 1 _ rfl, h.c 2 _ rfl, h.c 4 _ rfl⟩
 have HBW : Hid (Below wV.heap.size wV wV.drew) := Lib.hid (Below.refl _ wV).drew
 refine wp_region_noPanic ?_
 refine Hd.start (fun v => v.cell? ⟨KM, 1, none⟩ = some (.slice pa pl pc) ∧ v.cell? ⟨KM, 2, none⟩ = some (.slice ta tl tc) ∧ v.cell? ⟨KM, 4, none⟩ = some (.slice ba bl bc)) (by kernel_rfl) (hS _ HBW.out) (fun hH0 => ?_)
 obtain ⟨wd2, hwd⟩ : ∃ W, wV.drew = W := ⟨_, rfl⟩
 rw [hwd] at HBW hH0 ⊢
 clear hwd
 refine Hd.tk 0 1 hH0 ?_
 refine Hd.tk 1 9 hH0 ?_
 refine Hd.tk 3 4 hH0 ?_
 refine Hd.tk 4 5 hH0 ?_
 refine Hd.tk 6 7 hH0 ?_
 refine Hd.tk 7 8 hH0 ?_
 have hX6 := alloc_bel wd2 (.cells #[] 9)
 have hE6 := World.ownsRow_made (e := 9) (size := 1) wd2 #[] 0 (Nat.le_refl _) (by unfold maxLen; omega) rfl
 refine Hd.on 2 (fun K hK => ?_)
 go_simp
 obtain ⟨w45, hw45⟩ : ∃ X, wd2.alloc (.cells #[] 9) = X := ⟨_, rfl⟩
 rw [hw45] at hX6 hE6 ⊢
 have HB45 := Lib.hid (HBW.out.trans (hX6.mono HBW.out.size))
 have HE45 := Lib.hid (own_mono hE6 HBW.out.size)
 clear hX6 hE6 hw45
 refine hK.out _ _ (hS _ HB45.out) (fun hH1 => ?_)
 clear hK K
 try simp only [Act.put, Hd.sa, Hd.sz, Hd.ss]
 have HP45 := Lib.hid ((HPR.out _ (HBV6.out _ HB45.out)).mono (S' := fun _ => True) (fun _ _ _ => trivial))
 refine Hd.on 5 (fun K hK => ?_)
 refine step_rd (S := fun _ => True) (f := strV) (fun _ => rfl) rfl (.tmp 131) (.tmp 133) 22 9 rfl tI iI (.string ⟨#[]⟩) 16 hiI hI0 hI1 hI2 rfl (by exact HE45.out) (by simp [Act.eval]) (by simp [Act.eval]) HP45.out (by unfold maxLen; omega) (by omega) (by exact HB45.out.size) ?_
 intro v46 w46 hown46 hg46 _
 have HB46 := Lib.hid (HB45.out.grown hg46 HB45.out.size (fun k hk => (HE45.out.lt k hk).1))
 have HP46 := Lib.hid (show w46.ownsRow wV.heap.size 9 1 v46 M.params.length (M.params.map strV) by simpa using hown46)
 clear hown46 hg46
 refine hK.out _ _ (hS _ HB46.out) (fun hH2 => ?_)
 clear hK K
 try simp only [Act.put, Hd.sa, Hd.sz, Hd.ss]
 have HT46 := Lib.hid ((HTR.out _ (HBV6.out _ HB46.out)).mono (S' := fun _ => True) (fun _ _ _ => trivial))
 refine Hd.on 8 (fun K hK => ?_)
 refine step_rd (S := fun _ => True) (f := strV) (fun _ => rfl) rfl (.tmp 134) (.tmp 136) 22 9 rfl tI iI (.string ⟨#[]⟩) 16 hiI hI0 hI1 hI2 rfl (by exact HP46.out) (by simp [Act.eval]) (by simp [Act.eval]) HT46.out (by unfold maxLen; omega) (by omega) (by exact HB46.out.size) ?_
 intro v47 w47 hown47 hg47 _
 have HB47 := Lib.hid (HB46.out.grown hg47 HB46.out.size (fun k hk => (HP46.out.lt k hk).1))
 have HP47 := Lib.hid (show w47.ownsRow wV.heap.size 9 1 v47 (M.params ++ M.temps).length ((M.params ++ M.temps).map strV) by rw [List.length_append, List.map_append]; exact hown47)
 clear hown47 hg47
 refine hK.out _ _ (hS _ HB47.out) (fun hH3 => ?_)
 clear hK K
 try simp only [Act.put, Hd.sa, Hd.sz, Hd.ss]
 have hsz47 : wV.heap.size ≤ w47.heap.size := HB47.out.size
 have HRNC := Lib.hid (rn_any M.body HC9.out w6.heap.size (M.params ++ M.temps) (.slice ba bl bc) v47 w47 (by omega) (HTB.out _ (HBV6.out _ HB47.out)) ((Rd.of HP47.out).mono (fun _ _ _ => trivial)) (by rw [List.length_append]; have := HMI.out.few; omega) (fun x hx => ⟨(HMI.out.fair x hx).2.1, (HMI.out.fair x hx).1, fun t ht => (HMN.out x hx t ht).1⟩))
 refine Hd.on 9 (fun K hK => ?_)
 go_simp
 refine HRNC.out.mono ?_; rintro e w48 ⟨hb48, v48, rfl, hO48⟩
 have hlo48 : ∀ g, v48.ownBlock = some g → w47.heap.size ≤ g := fun g hg => by obtain ⟨vl6, -, ho6, -⟩ := hO48; exact (ho6.lt g hg).1
 have hT48 := hO48.tree
 obtain ⟨fo, fl, fc, rfl⟩ : ∃ a b c, v48 = .slice a b c := by obtain ⟨vl6, -, ho6, -⟩ := hO48; obtain ⟨ao, co, h, -⟩ := own_slice ho6; exact ⟨_, _, _, h⟩
 have HT48 := Lib.hid (hT48.mono (S' := fun b => b ≠ KN) (fun b hb _ => by
  rcases hb with (hb | hb) | hb
  · omega
  · omega
  have := hlo48 b hb; omega))
 have HB48 := Lib.hid (HB47.out.trans (hb48.mono hsz47))
 clear hb48 hO48 hlo48 hT48 HRNC
 go_wp2_with fail
 refine hK.out _ _ (hS _ HB48.out) (fun hH4 => ?_)
 clear hK K
 try simp only [Act.put, Hd.sa, Hd.sz, Hd.ss]
 refine Hd.tk 10 11 hH4 ?_
 have hk48 := HKr4.out.below HB48.out HKr4.out.lt
 have m4 := hk48.c 4 _ rfl
 have mf := hk48.fz
 have HK48 := Lib.hid hk48
 clear hk48
 refine Hd.la 11 (fun K hK => ?_)
 go_simp
 refine hK.out _ _ ?_
 clear hK K
 try simp only [Act.put, Hd.sa, Hd.sz, Hd.ss]
 simp only [NoPanic]
 obtain ⟨W49, hw49⟩ : ∃ X, w48.setCell ⟨KN, 4, none⟩ (.slice fo fl fc) = X := ⟨_, rfl⟩
 rw [hw49]
 have hs49 : w48.heap.size = W49.heap.size := by rw [← hw49]; simp [World.setCell]
 have hkp49 : Kp (fun b => b ≠ KN) w48 W49 := by rw [← hw49]; exact kpz 4 (by simp) _
 have hmt49 : MtAt (fun _ => True) W49 (rnM M) (.slice na3 pl nc3) (.slice nb4 tl nd4) (.slice fo fl fc) :=
  ⟨by show Rd _ strV W49 _ (M.params.map zB); rw [HP2.out]; exact ((HPT.out.below HB48.out).kp hkp49).mono (fun _ _ _ => trivial), by show Rd _ strV W49 _ (M.temps.map zB); rw [HT2.out]; exact ((HTT.out.below HB48.out).kp hkp49).mono (fun _ _ _ => trivial), (HT48.out.kp hkp49).mono (fun _ _ _ => trivial)⟩
 have hk49 : Blk 25 KN #[.string ⟨M.name.toArray⟩, .slice na3 pl nc3, .slice nb4 tl nd4, .int .i64 M.prim, .slice fo fl fc, .int .i64 M.at_] W49 := by rw [← hw49]; exact HK48.out.set_ 4 _ _ rfl
 have hb49 : Below KN wT W49 := by rw [← hw49]; exact (HBr4.out.trans (HB48.out.mono (by omega))).setCell (p := ⟨KN, 4, none⟩) (Nat.le_refl KN) _
 have HMT49 := Lib.hid hmt49
 have HK49 := Lib.hid hk49
 have HB49 := Lib.hid hb49
 clear hw49 hs49 hkp49 hmt49 hk49 hb49 hS hH0 hH1 hH2 hH3 hH4 m4 mf HK48 HB48 HT48 HB47 HB46 HB45 HP45 HP46 HP47 HT46 HE45 HBW HPT HTT HKr4
 have e0 := HK49.out.c 0 _ rfl
 have e1 := HK49.out.c 1 _ rfl
 have e2 := HK49.out.c 2 _ rfl
 have e3 := HK49.out.c 3 _ rfl
 have e4 := HK49.out.c 4 _ rfl
 have e5 := HK49.out.c 5 _ rfl
 have hmild2 : Mild (rnM M).body := mild_rn HMI.out (fun t ht => (HMP.out t ht).1) (fun x hx t ht => (HMN.out x hx t ht).1)
 have hOWN2 : Calls Tryz.prog 9 #[.agg #[.string ⟨M.name.toArray⟩, .slice na3 pl nc3, .slice nb4 tl nd4, .int .i64 M.prim, .slice fo fl fc, .int .i64 M.at_]] W49 (fun e w' => Below W49.heap.size W49 w' ∧ ∃ xa xn xc ya yn yc za zn zc, e = .returned (.agg #[.string ⟨M.name.toArray⟩, .slice xa xn xc, .slice ya yn yc, .int .i64 M.prim, .slice za zn zc, .int .i64 M.at_]) ∧ MtAt (fun _ => True) w' (rnM M) (.slice xa xn xc) (.slice ya yn yc) (.slice za zn zc)) := by
  have h := own_any (rnM M) hmild2 (by show (M.params.map zB).length ≤ 15; rw [List.length_map]; exact hpl15) (by show (M.temps.map zB).length ≤ 15; rw [List.length_map]; exact htl15) _ _ _ W49 HMT49.out
  refine (show Calls _ _ #[.agg #[.string ⟨M.name.toArray⟩, .slice na3 pl nc3, .slice nb4 tl nd4, .int .i64 M.prim, .slice fo fl fc, .int .i64 M.at_]] W49 _ from h).mono ?_
  rintro e w' ⟨hb, pv4, tv4, bv4, rfl, hp4, ht4, hbd4⟩
  have hmx : MtAt (fun _ => True) w' (rnM M) pv4 tv4 bv4 := ⟨hp4.mono (fun _ _ _ => trivial), ht4.mono (fun _ _ _ => trivial), hbd4.tree.mono (fun _ _ _ => trivial)⟩
  obtain ⟨xa, xc, ya, yc, za, zc, rfl, rfl, rfl⟩ := hmx.form
  exact ⟨hb, xa, _, xc, ya, _, yc, za, _, zc, rfl, hmx⟩
 have hR2 : resR F8 G8 (rnM M) = .ok c := ren_law HNZ.out.1 HNZ.out.2 HMP.out HMN.out HR.out
 have HOWN2 := Lib.hid hOWN2
 have HR2 := Lib.hid hR2
 have HCM2 : Hid (cntL (rnM M).body ≤ 100000 ∧ ∀ x ∈ allL (rnM M).body, InI x) := Lib.hid ⟨by have := hmild2.few; omega, fun x hx => (hmild2.fair x hx).2.2⟩
 have hb6T : Below w6.heap.size w6 W49 := HBW6.out _ HB49.out
 have HB649 := Lib.hid hb6T
 have hbC : Below W11.heap.size W11 W49 := HBr.out.trans (HB49.out.mono (by have := HBr.out.size; omega))
 have HKC49 := Lib.hid (HKC.out.below hbC HKC.out.lt)
 have HIT49 := Lib.hid (HIT.out.bel hbC)
 clear hmild2 hOWN2 hR2 hb6T hbC
 go_wp2_with fail
 refine HOWN2.out.mono ?_; rintro e w50 ⟨hb50, xa2, xn2, xc2, ya2, yn2, yc2, za2, zn2, zc2, rfl, hmo2⟩
 have hb650 := HB649.out.trans (hb50.mono HB649.out.size)
 have hrz := Resolve_any (rnM M) _ _ _ _ _ F8 G8 w50 HCM2.out.1 HCM2.out.2 hmo2 (HFR.out w50 hb650) (HGR6.out w50 hb650)
 rw [HR2.out] at hrz
 have HRZ2 := Lib.hid (show Calls Tryz.prog 10 #[.agg #[.string ⟨M.name.toArray⟩, .slice xa2 xn2 xc2, .slice ya2 yn2 yc2, .int .i64 M.prim, .slice za2 zn2 zc2, .int .i64 M.at_], .slice xa f8 xc, .slice ya g8 yc] w50 _ from hrz)
 have HB50 := Lib.hid hb50
 clear hb50 hb650 hmo2 hrz e0 e1 e2 e3 e4 e5
 go_wp2_with fail
 refine HRZ2.out.mono ?_; rintro e w51 hre
 obtain ⟨hbd, s2, a2, sl2, pr2, rb, rbn, rbc, p2, n2, rfl, hrv⟩ := reso hre
 have hb51 := HB50.out.trans (hbd.mono HB50.out.size)
 unfold ResV at hrv
 obtain ⟨rfl, rfl, rfl, rfl, rfl, rfl, hits2⟩ := hrv
 have hX52 := alloc_bel w51 (.cells #[.string ⟨c.name.toArray⟩, .int .i64 c.args, .int .i64 c.slots, .int .i64 c.prim, .slice rb rbn rbc] CDT)
 have hk52 := Blk.made (T := CDT) (cs := #[.string ⟨c.name.toArray⟩, .int .i64 c.args, .int .i64 c.slots, .int .i64 c.prim, .slice rb rbn rbc]) w51
 have HIT52 := Lib.hid ((hits2.mono (S' := fun _ => True) (fun _ _ _ => trivial)).bel hX52)
 have HB52 := Lib.hid (hb51.trans (hX52.mono hb51.size))
 have HKD := Lib.hid hk52
 clear hre hbd hb51 hits2 hX52 hk52 HRZ2 HB50
 go_upto_region 40 with fail
 obtain ⟨W52, hal⟩ : ∃ X, w51.alloc (.cells #[.string ⟨c.name.toArray⟩, .int .i64 c.args, .int .i64 c.slots, .int .i64 c.prim, .slice rb rbn rbc] CDT) = X := ⟨_, rfl⟩
 rw [hal] at HIT52 HB52 HKD ⊢
 obtain ⟨KD, hKD⟩ : ∃ q, w51.heap.size = q := ⟨_, rfl⟩
 rw [hKD] at HKD ⊢
 clear hal hKD
 have hrn1 : rn = c.body.length := HIT.out.len.1
 have hrn2 : rbn = c.body.length := HIT52.out.len.1
 have hrr : rbn = rn := by omega
 subst hrr
 have HKCD : Hid (∀ v, Below W52.heap.size W52 v → (v.cell? ⟨KC, 0, none⟩ = some (.string ⟨c.name.toArray⟩) ∧ v.cell? ⟨KC, 1, none⟩ = some (.int .i64 c.args) ∧ v.cell? ⟨KC, 2, none⟩ = some (.int .i64 c.slots) ∧ v.cell? ⟨KC, 3, none⟩ = some (.int .i64 c.prim) ∧ v.cell? ⟨KC, 4, none⟩ = some (.slice ra rbn rc) ∧ v.cell? ⟨KD, 0, none⟩ = some (.string ⟨c.name.toArray⟩) ∧ v.cell? ⟨KD, 1, none⟩ = some (.int .i64 c.args) ∧ v.cell? ⟨KD, 2, none⟩ = some (.int .i64 c.slots) ∧ v.cell? ⟨KD, 3, none⟩ = some (.int .i64 c.prim) ∧ v.cell? ⟨KD, 4, none⟩ = some (.slice rb rbn rbc))) := Lib.hid (fun v hv => by
  have h1 := (HKC49.out.below HB52.out HKC49.out.lt)
  have h1 := h1.below hv h1.lt
  have h2 := HKD.out.below hv HKD.out.lt
  exact ⟨h1.c 0 _ rfl, h1.c 1 _ rfl, h1.c 2 _ rfl, h1.c 3 _ rfl, h1.c 4 _ rfl, h2.c 0 _ rfl, h2.c 1 _ rfl, h2.c 2 _ rfl, h2.c 3 _ rfl, h2.c 4 _ rfl⟩)
 have HITC := Lib.hid (HIT49.out.bel HB52.out)
 clear hrn1 hrn2
 have HBW : Hid (Below W52.heap.size W52 W52.drew) := Lib.hid (Below.refl _ W52).drew
 refine wp_region_noPanic ?_
 refine Hd.start (fun v => v.cell? ⟨KC, 0, none⟩ = some (.string ⟨c.name.toArray⟩) ∧ v.cell? ⟨KC, 1, none⟩ = some (.int .i64 c.args) ∧ v.cell? ⟨KC, 2, none⟩ = some (.int .i64 c.slots) ∧ v.cell? ⟨KC, 3, none⟩ = some (.int .i64 c.prim) ∧ v.cell? ⟨KC, 4, none⟩ = some (.slice ra rbn rc) ∧ v.cell? ⟨KD, 0, none⟩ = some (.string ⟨c.name.toArray⟩) ∧ v.cell? ⟨KD, 1, none⟩ = some (.int .i64 c.args) ∧ v.cell? ⟨KD, 2, none⟩ = some (.int .i64 c.slots) ∧ v.cell? ⟨KD, 3, none⟩ = some (.int .i64 c.prim) ∧ v.cell? ⟨KD, 4, none⟩ = some (.slice rb rbn rbc)) (by kernel_rfl) (HKCD.out _ HBW.out) (fun hH0 => ?_)
 obtain ⟨wd3, hwd⟩ : ∃ W, W52.drew = W := ⟨_, rfl⟩
 rw [hwd] at HBW hH0 ⊢
 clear hwd
 refine Hd.tk 0 1 hH0 ?_
 refine Hd.tk 1 2 hH0 ?_
 refine Hd.tk 2 8 hH0 ?_
 refine Hd.tk 3 4 hH0 ?_
 refine Hd.tk 5 6 hH0 ?_
 have HTD1 := Lib.hid (told_any ⟨c.name.toArray⟩ c.args c.slots c.prim ra rbn rc c.body wd3 (HITC.out.bel HBW.out) HCN.out)
 refine Hd.on 4 (fun K hK => ?_)
 go_simp
 refine HTD1.out.mono ?_; rintro e w54 ⟨hb54, ya5, yc5, rfl, hi54⟩
 have HB54 := Lib.hid (HBW.out.trans (hb54.mono HBW.out.size))
 have HI54 := Lib.hid (hi54.mono (S' := fun _ => True) (fun _ _ _ => trivial))
 clear hb54 hi54 HTD1
 go_wp2_with fail
 refine hK.out _ _ (HKCD.out _ HB54.out) (fun hH1 => ?_)
 clear hK K
 try simp only [Act.put, Hd.sa, Hd.sz, Hd.ss]
 have HTD2 := Lib.hid (told_any ⟨c.name.toArray⟩ c.args c.slots c.prim rb rbn rbc c.body w54 (HIT52.out.bel HB54.out) HCN.out)
 refine Hd.on 6 (fun K hK => ?_)
 go_simp
 refine HTD2.out.mono ?_; rintro e w56 ⟨hb56, ya6, yc6, rfl, hi56⟩
 have HB56 := Lib.hid (HB54.out.trans (hb56.mono HB54.out.size))
 have HI56 := Lib.hid (hi56.mono (S' := fun _ => True) (fun _ _ _ => trivial))
 have HI54' := Lib.hid (HI54.out.bel hb56)
 clear hb56 hi56 HTD2
 go_wp2_with fail
 refine hK.out _ _ (HKCD.out _ HB56.out) (fun hH2 => ?_)
 clear hK K
 try simp only [Act.put, Hd.sa, Hd.sz, Hd.ss]
 have HSM := Lib.hid (csame_any ⟨c.name.toArray⟩ c.args c.slots c.prim ya5 ya6 rbn yc5 yc6 c.body w56 HI54'.out HI56.out)
 refine Hd.on 7 (fun K hK => ?_)
 go_simp
 refine HSM.out.mono ?_; rintro e w57 ⟨rfl, hb57⟩
 have HB57 := Lib.hid (HB56.out.trans (hb57.mono HB56.out.size))
 clear hb57
 go_wp2_with fail
 refine hK.out _ _ (HKCD.out _ HB57.out) (fun hH3 => ?_)
 clear hK K
 try simp only [Act.put, Hd.sa, Hd.sz, Hd.ss]
 refine Hd.tk 8 9 hH3 ?_
 refine Hd.la 9 (fun K hK => ?_)
 go_simp
 refine hK.out _ _ ?_
 clear hK K
 try simp only [Act.put, Hd.sa, Hd.sz, Hd.ss]
 simp only [NoPanic]
 go_wp2_with fail
 go_ret
 exact ⟨rfl, by rw [hKM]; exact HFIN.out _ (HB6.out.trans ((HB649.out.trans ((HB52.out.trans (HB57.out.mono HB52.out.size)).mono HB649.out.size)).mono HB6.out.size))⟩
end Rv
end Go.Proofs.YtmmgfifpjifjnaaGreatDoor
