/- What Resolve hands back, in one form; its place in memory. · The law ScopeSlots (wip/gen/gen_rvl1.py prints this). -/
import Derived.Test.YtmmgfifpjifjnaaGreatDoorRvF
import Derived.Test.YtmmgfifpjifjnaaGreatDoorRvA
import Derived.Test.YtmmgfifpjifjnaaGreatDoorTrC
import Derived.Test.YtmmgfifpjifjnaaGreatDoorRvH
import Derived.Test.YtmmgfifpjifjnaaGreatDoorRvG
import Derived.Deep.DeepCutAuto
import Derived.Laws.EntriesVeiled
set_option linter.unusedVariables false
namespace Go.Proofs.YtmmgfifpjifjnaaGreatDoor
open Go.RowKit
namespace Rv
open Bs Sm Tr
abbrev CDT : Nat := 37
def ResV (R : RE Cd) (S : Nat → Prop) (w : World) (s : ByteArray) (a sl pr : Int) (bv : Value) (p n : Int) : Prop :=
 match R with
 | .error (p', n') => p = p' ∧ n = n' ∧ s = ⟨#[]⟩ ∧ a = 0 ∧ sl = 0 ∧ pr = 0 ∧ Its S w bv []
 | .ok c => p = 0 ∧ n = 0 ∧ s = ⟨c.name.toArray⟩ ∧ a = c.args ∧ sl = c.slots ∧ pr = c.prim ∧ Its S w bv c.body
theorem ResV.kp {R : RE Cd} {S : Nat → Prop} {w w' : World} {s : ByteArray} {a sl pr p n : Int} {bv : Value} (h : ResV R S w s a sl pr bv p n) (hk : Kp S w w') : ResV R S w' s a sl pr bv p n := by
 unfold ResV at h ⊢
 cases R with
 | error E => exact ⟨h.1, h.2.1, h.2.2.1, h.2.2.2.1, h.2.2.2.2.1, h.2.2.2.2.2.1, h.2.2.2.2.2.2.kp hk⟩
 | ok c => exact ⟨h.1, h.2.1, h.2.2.1, h.2.2.2.1, h.2.2.2.2.1, h.2.2.2.2.2.1, h.2.2.2.2.2.2.kp hk⟩
theorem ResV.mono {R : RE Cd} {S S' : Nat → Prop} {w : World} {s : ByteArray} {a sl pr p n : Int} {bv : Value} (h : ResV R S w s a sl pr bv p n) (hs : ∀ b, S b → b < w.heap.size → S' b) : ResV R S' w s a sl pr bv p n := by
 unfold ResV at h ⊢
 cases R with
 | error E => exact ⟨h.1, h.2.1, h.2.2.1, h.2.2.2.1, h.2.2.2.2.1, h.2.2.2.2.2.1, h.2.2.2.2.2.2.mono hs⟩
 | ok c => exact ⟨h.1, h.2.1, h.2.2.1, h.2.2.2.1, h.2.2.2.2.1, h.2.2.2.2.2.1, h.2.2.2.2.2.2.mono hs⟩
theorem reso {R : RE Cd} {w w' : World} {e : Ending} (h : ResO R w e w') : Below w.heap.size w w' ∧ ∃ s a sl pr ba bn bc p n, e = .returned (.tuple #[.agg #[.string s, .int .i64 a, .int .i64 sl, .int .i64 pr, .slice ba bn bc], .int .i64 p, .int .i64 n]) ∧ ResV R (fun j => w.heap.size ≤ j) w' s a sl pr (.slice ba bn bc) p n := by
 obtain ⟨h1, h2⟩ := h
 refine ⟨h1, ?_⟩
 cases R with
 | error E =>
  obtain ⟨p, n⟩ := E
  exact ⟨⟨#[]⟩, 0, 0, 0, none, 0, 0, p, n, h2, rfl, rfl, rfl, rfl, rfl, rfl, Its.nil _ _⟩
 | ok c =>
  obtain ⟨bv, h2, h3⟩ := h2
  obtain ⟨ba, bc, rfl, -, -⟩ := h3.form
  exact ⟨⟨c.name.toArray⟩, c.args, c.slots, c.prim, ba, c.body.length, bc, 0, 0, h2, rfl, rfl, rfl, rfl, rfl, rfl, h3⟩
section
variable {T j k B : Nat} {a0 a1 a2 a3 a4 v0 v1 v2 v3 v4 : Value} {cs : Array Value} {S : Nat → Prop} {w w0 : World}
def st5 (k : Nat) (w : World) (v0 v1 v2 v3 v4 : Value) : World := ((((w.setCell ⟨k, 0, none⟩ v0).setCell ⟨k, 1, none⟩ v1).setCell ⟨k, 2, none⟩ v2).setCell ⟨k, 3, none⟩ v3).setCell ⟨k, 4, none⟩ v4
theorem blk_st5 (h : Blk T k #[a0, a1, a2, a3, a4] w) : Blk T k #[v0, v1, v2, v3, v4] (st5 k w v0 v1 v2 v3 v4) :=
 (((((h.set_ 0 v0 _ rfl).set_ 1 v1 _ rfl).set_ 2 v2 _ rfl).set_ 3 v3 _ rfl).set_ 4 v4 _ rfl)
theorem two_st5 : Two k k w (st5 k w v0 v1 v2 v3 v4) := (((((Two.refl k k w).km 0 v0).km 1 v1).km 2 v2).km 3 v3).km 4 v4
theorem bel_st5 (h : Below B w0 w) (hk : B ≤ k) : Below B w0 (st5 k w v0 v1 v2 v3 v4) := two_st5.bel h hk
theorem kp_st5 (hS : ¬ S k) : Kp S w (st5 k w v0 v1 v2 v3 v4) := ⟨Nat.le_of_eq two_st5.size.symm, fun b hb _ => two_st5.block b (fun e => hS (e ▸ hb)) (fun e => hS (e ▸ hb))⟩
end
end Rv
end Go.Proofs.YtmmgfifpjifjnaaGreatDoor
namespace Go.Proofs.YtmmgfifpjifjnaaGreatDoor
open Go.RowKit
namespace Rv
open Bs Sm Tr
set_option maxRecDepth 100000 in
set_option maxHeartbeats 3200000 in
theorem slots_walk (m : Mt) (pv tv bv fv gv : Value) (F G : List Lx.Bytes) (hin : ∀ x ∈ allL m.body, InI x) (w : World) (hm : MtAt (fun _ => True) w m pv tv bv) (hf : Rd (fun _ => True) strV w fv F) (hg : Rd (fun _ => True) strV w gv G) (herr : Lx.ErrVar w) :
  Calls Tryz.prog 5 #[mtV m pv tv bv, .agg #[fv, gv]] w (Back (.bool true) w) := by
 have hmB := hm.mono (S' := fun b => b < w.heap.size) (fun b _ hl => hl)
 have hfB := hf.mono (S' := fun b => b < w.heap.size) (fun b _ hl => hl)
 have hgB := hg.mono (S' := fun b => b < w.heap.size) (fun b _ hl => hl)
 obtain ⟨pa0, pc0, ta0, tc0, ba0, bc0, rfl, rfl, rfl⟩ := hm.form
 obtain ⟨fa, fc, rfl, hfl, hfm⟩ := hf.form
 obtain ⟨ga, gc, rfl, hgl, hgm⟩ := hg.form
 obtain ⟨M, hM⟩ : ∃ M, cutM m = M := ⟨_, rfl⟩
 have hmild : Mild M.body := by rw [← hM]; exact few_mild m.body hin 60
 have hpl15 : M.params.length ≤ 15 := by rw [← hM]; show (m.params.take 15).length ≤ 15; rw [List.length_take]; omega
 have htl15 : M.temps.length ≤ 15 := by rw [← hM]; show (m.temps.take 15).length ≤ 15; rw [List.length_take]; omega
 have hX := (alloc_bel w (.cells #[.string ⟨m.name.toArray⟩, .slice pa0 m.params.length pc0, .slice ta0 m.temps.length tc0, .int .i64 m.prim, .slice ba0 m.body.length bc0, .int .i64 m.at_] 25)).trans ((alloc_bel (w.alloc (.cells #[.string ⟨m.name.toArray⟩, .slice pa0 m.params.length pc0, .slice ta0 m.temps.length tc0, .int .i64 m.prim, .slice ba0 m.body.length bc0, .int .i64 m.at_] 25)) (.cells #[.slice fa F.length fc, .slice ga G.length gc] 27)).mono (by simp))
 have hk := (Blk.made (T := 25) (cs := #[.string ⟨m.name.toArray⟩, .slice pa0 m.params.length pc0, .slice ta0 m.temps.length tc0, .int .i64 m.prim, .slice ba0 m.body.length bc0, .int .i64 m.at_]) w).below (alloc_bel _ (.cells #[.slice fa F.length fc, .slice ga G.length gc] 27)) (by simp)
 have hq := Blk.made (T := 27) (cs := #[.slice fa F.length fc, .slice ga G.length gc]) (w.alloc (.cells #[.string ⟨m.name.toArray⟩, .slice pa0 m.params.length pc0, .slice ta0 m.temps.length tc0, .int .i64 m.prim, .slice ba0 m.body.length bc0, .int .i64 m.at_] 25))
 have hs1 : (w.alloc (.cells #[.string ⟨m.name.toArray⟩, .slice pa0 m.params.length pc0, .slice ta0 m.temps.length tc0, .int .i64 m.prim, .slice ba0 m.body.length bc0, .int .i64 m.at_] 25)).heap.size = w.heap.size + 1 := by simp
 rw [hs1] at hq
 have HAW := Lib.hid (fun v (hv : Below w.heap.size w v) => awake_any v (herr.below hv))
 have HM := Lib.hid hM
 have HMI := Lib.hid hmild
 clear hm hf hg herr hM hmild hin hs1
 unfold mtV
 go_enter Tryz.func5, Tryz.ntmps5
 go_upto_region 1 with fail
 obtain ⟨W0, hal⟩ : ∃ W, (w.alloc (.cells #[.string ⟨m.name.toArray⟩, .slice pa0 m.params.length pc0, .slice ta0 m.temps.length tc0, .int .i64 m.prim, .slice ba0 m.body.length bc0, .int .i64 m.at_] 25)).alloc (.cells #[.slice fa F.length fc, .slice ga G.length gc] 27) = W := ⟨_, rfl⟩
 rw [hal] at hX hk hq ⊢
 obtain ⟨KM, hKM⟩ : ∃ b, w.heap.size = b := ⟨_, rfl⟩
 rw [hKM] at hk hq hX hmB hfB hgB ⊢
 clear hal
 have HX := Lib.hid hX
 have HK := Lib.hid hk
 have HQ := Lib.hid hq
 have HMB := Lib.hid hmB
 have HFB := Lib.hid hfB
 have HGB := Lib.hid hgB
 clear hX hk hq hmB hfB hgB
 go_wp2_with fail
 refine (HAW.out _ (by rw [hKM]; exact HX.out)).mono ?_; rintro e w1 ⟨rfl, hb1⟩
 have HB1 := Lib.hid (HX.out.trans (hb1.mono (by have := HX.out.size; omega)))
 have hk1 := HK.out.below hb1 HK.out.lt
 have HQ1 := Lib.hid (HQ.out.below hb1 HQ.out.lt)
 have hkm := hk1.lt
 have HCUT := Lib.hid (cutm_any KM m _ _ _ w1 (by omega) (HMB.out.kp (Kp.lt HB1.out)))
 rw [HM.out] at HCUT
 unfold mtV at HCUT
 have c0 := hk1.c 0 _ rfl
 have c1 := hk1.c 1 _ rfl
 have c2 := hk1.c 2 _ rfl
 have c3 := hk1.c 3 _ rfl
 have c4 := hk1.c 4 _ rfl
 have c5 := hk1.c 5 _ rfl
 have HK1 := Lib.hid hk1
 clear hb1 hk1 HK HQ HX
 go_wp2_with fail
 refine HCUT.out.mono ?_; rintro e w2 ⟨hb2, pv', tv', bv', rfl, hm2⟩
 obtain ⟨pa, pc, ta, tc, ba, bc, rfl, rfl, rfl⟩ := hm2.form
 have hk2 := HK1.out.below hb2 HK1.out.lt
 have hq2 := HQ1.out.below hb2 HQ1.out.lt
 have hf := hk2.fz
 have hlt := hk2.lt
 have e0 := hk2.c 0 _ rfl
 have e1 := hk2.c 1 _ rfl
 have e2 := hk2.c 2 _ rfl
 have e3 := hk2.c 3 _ rfl
 have e4 := hk2.c 4 _ rfl
 have e5 := hk2.c 5 _ rfl
 have HB02 := Lib.hid (HB1.out.trans (hb2.mono (by omega)))
 have HK2 := Lib.hid hk2
 have HQ2 := Lib.hid hq2
 have HM2 := Lib.hid hm2
 clear c0 c1 c2 c3 c4 c5 hk2 hm2 hq2 hb2 HCUT HK1 HQ1 HB1
 go_upto_region 4 with fail
 generalize hW3 : World.setCell _ _ _ = W3
 obtain ⟨pl, hpl⟩ : ∃ n, M.params.length = n := ⟨_, rfl⟩
 obtain ⟨tl, htl⟩ : ∃ n, M.temps.length = n := ⟨_, rfl⟩
 obtain ⟨bl, hbl⟩ : ∃ n, M.body.length = n := ⟨_, rfl⟩
 rw [hpl, htl, hbl] at HM2 hW3
 have htwo : Two KM KM w2 W3 := by rw [← hW3]; exact six_two _ _ _ _ _ _ _
 have hk3 : Blk 25 KM #[.string ⟨M.name.toArray⟩, .slice pa pl pc, .slice ta tl tc, .int .i64 M.prim, .slice ba bl bc, .int .i64 M.at_] W3 := by rw [← hW3]; exact six HK2.out _ _ _ _ _ _
 have HQ3 := Lib.hid (htwo.blk HQ2.out (by omega))
 have hm3 := (HM2.out.two htwo (fun b hb => by omega)).mono (S' := fun _ => True) (fun _ _ _ => trivial)
 have HB03 := Lib.hid (htwo.bel HB02.out (Nat.le_refl _))
 have HK3 := Lib.hid hk3
 have HM3 := Lib.hid hm3
 have HPL := Lib.hid hpl
 have HTL := Lib.hid htl
 have HBL := Lib.hid hbl
 have hkm3 := hk3.lt
 have hqm3 := HQ3.out.lt
 clear hW3 htwo hk3 hm3 HM2 HK2 HQ2 HB02 hf hlt hpl htl hbl e0 e1 e2 e3 e4 e5 hkm
 have HFIN : Hid (∀ v, Below W3.heap.size W3 v → Below KM w v) := Lib.hid (fun v hv => HB03.out.trans (hv.mono (by omega)))
 have hS : ∀ v, Below W3.heap.size W3 v → (v.cell? ⟨KM, 0, none⟩ = some (.string ⟨M.name.toArray⟩) ∧ v.cell? ⟨KM, 1, none⟩ = some (.slice pa pl pc) ∧ v.cell? ⟨KM, 2, none⟩ = some (.slice ta tl tc) ∧ v.cell? ⟨KM, 3, none⟩ = some (.int .i64 M.prim) ∧ v.cell? ⟨KM, 4, none⟩ = some (.slice ba bl bc) ∧ v.cell? ⟨KM, 5, none⟩ = some (.int .i64 M.at_) ∧ v.cell? ⟨KM + 1, 0, none⟩ = some (.slice fa F.length fc) ∧ v.cell? ⟨KM + 1, 1, none⟩ = some (.slice ga G.length gc)) := fun v hv => by
  have h1 := HK3.out.below hv HK3.out.lt
  have h2 := HQ3.out.below hv HQ3.out.lt
  exact ⟨h1.c 0 _ rfl, h1.c 1 _ rfl, h1.c 2 _ rfl, h1.c 3 _ rfl, h1.c 4 _ rfl, h1.c 5 _ rfl, h2.c 0 _ rfl, h2.c 1 _ rfl⟩
 have hOWN : ∀ v, Below W3.heap.size W3 v → Calls Tryz.prog 9 #[.agg #[.string ⟨M.name.toArray⟩, .slice pa pl pc, .slice ta tl tc, .int .i64 M.prim, .slice ba bl bc, .int .i64 M.at_]] v (fun e w' => Below v.heap.size v w' ∧ ∃ xa xc ya yc za zc, e = .returned (.agg #[.string ⟨M.name.toArray⟩, .slice xa pl xc, .slice ya tl yc, .int .i64 M.prim, .slice za bl zc, .int .i64 M.at_]) ∧ MtAt (fun _ => True) w' M (.slice xa pl xc) (.slice ya tl yc) (.slice za bl zc)) := fun v hv => by
  have h := own_any M HMI.out hpl15 htl15 _ _ _ v (HM3.out.bel hv)
  unfold mtV at h
  refine h.mono ?_
  rintro e w' ⟨hb, pv4, tv4, bv4, rfl, hp4, ht4, hbd4⟩
  have hmx : MtAt (fun _ => True) w' M pv4 tv4 bv4 := ⟨hp4.mono (fun _ _ _ => trivial), ht4.mono (fun _ _ _ => trivial), hbd4.tree.mono (fun _ _ _ => trivial)⟩
  obtain ⟨xa, xc, ya, yc, za, zc, rfl, rfl, rfl⟩ := hmx.form
  rw [HPL.out, HTL.out, HBL.out] at hmx ⊢
  exact ⟨hb, xa, xc, ya, yc, za, zc, rfl, hmx⟩
 obtain ⟨F8, hF8⟩ : ∃ l, F.take 8 = l := ⟨_, rfl⟩
 obtain ⟨G8, hG8⟩ : ∃ l, G.take 8 = l := ⟨_, rfl⟩
 obtain ⟨f8, hf8⟩ : ∃ n, F8.length = n := ⟨_, rfl⟩
 obtain ⟨g8, hg8⟩ : ∃ n, G8.length = n := ⟨_, rfl⟩
 have hFW : ∀ v, Below W3.heap.size W3 v → Calls Tryz.prog 8 #[.slice fa F.length fc, .int .i64 8] v (fun e w' => Below v.heap.size v w' ∧ ∃ xa xc, e = .returned (.slice xa f8 xc) ∧ Rd (fun j => v.heap.size ≤ j) strV w' (.slice xa f8 xc) F8) := fun v hv => by
  refine (few_any (.slice fa F.length fc) F v ((HFB.out.kp (Kp.lt (HFIN.out v hv))).mono (fun _ _ _ => trivial))).mono ?_
  rintro e w' ⟨hb, v', rfl, hr⟩
  rw [hF8] at hr
  obtain ⟨xa, xc, rfl, -, -⟩ := hr.form
  rw [hf8] at hr ⊢
  exact ⟨hb, xa, xc, rfl, hr⟩
 have hGW : ∀ v, Below W3.heap.size W3 v → Calls Tryz.prog 8 #[.slice ga G.length gc, .int .i64 8] v (fun e w' => Below v.heap.size v w' ∧ ∃ xa xc, e = .returned (.slice xa g8 xc) ∧ Rd (fun j => v.heap.size ≤ j) strV w' (.slice xa g8 xc) G8) := fun v hv => by
  refine (few_any (.slice ga G.length gc) G v ((HGB.out.kp (Kp.lt (HFIN.out v hv))).mono (fun _ _ _ => trivial))).mono ?_
  rintro e w' ⟨hb, v', rfl, hr⟩
  rw [hG8] at hr
  obtain ⟨xa, xc, rfl, -, -⟩ := hr.form
  rw [hg8] at hr ⊢
  exact ⟨hb, xa, xc, rfl, hr⟩
 have hc9 : cntL M.body ≤ 100000 := by have := HMI.out.few; omega
 have hin9 : ∀ x ∈ allL M.body, InI x := fun x hx => (HMI.out.fair x hx).2.2
 obtain ⟨R, hR⟩ : ∃ R, resR F8 G8 M = R := ⟨_, rfl⟩
 have HOWN := Lib.hid hOWN
 have HFW := Lib.hid hFW
 have HGW := Lib.hid hGW
 have HF8 := Lib.hid hF8
 have HG8 := Lib.hid hG8
 have Hf8 := Lib.hid hf8
 have Hg8 := Lib.hid hg8
 have HR := Lib.hid hR
 have HC9 := Lib.hid hc9
 have HIN9 := Lib.hid hin9
 clear hOWN hFW hGW hF8 hG8 hf8 hg8 hR hc9 hin9
 go_cut [5, 6, 7] (fun s5 s6 s7 wx => ∃ (kc : Nat) (s : ByteArray) (a sl pr : Int) (xa : Option Addr) (xn xc : Nat) (p n : Int), s5 = .pointer (some ⟨kc, 0, none⟩) ∧ s6 = .int .i64 p ∧ s7 = .int .i64 n ∧ W3.heap.size ≤ kc ∧ Hid (Below W3.heap.size W3 wx) ∧ Hid (Blk CDT kc #[.string s, .int .i64 a, .int .i64 sl, .int .i64 pr, .slice xa xn xc] wx) ∧ Hid (ResV R (fun j => W3.heap.size ≤ j ∧ j ≠ kc) wx s a sl pr (.slice xa xn xc) p n))
 case first =>
  have HBW : Hid (Below W3.heap.size W3 W3.drew) := Lib.hid (Below.refl _ W3).drew
  refine wp_region_noPanic ?_
  refine Hd.start (fun v => v.cell? ⟨KM, 0, none⟩ = some (.string ⟨M.name.toArray⟩) ∧ v.cell? ⟨KM, 1, none⟩ = some (.slice pa pl pc) ∧ v.cell? ⟨KM, 2, none⟩ = some (.slice ta tl tc) ∧ v.cell? ⟨KM, 3, none⟩ = some (.int .i64 M.prim) ∧ v.cell? ⟨KM, 4, none⟩ = some (.slice ba bl bc) ∧ v.cell? ⟨KM, 5, none⟩ = some (.int .i64 M.at_) ∧ v.cell? ⟨KM + 1, 0, none⟩ = some (.slice fa F.length fc) ∧ v.cell? ⟨KM + 1, 1, none⟩ = some (.slice ga G.length gc)) (by kernel_rfl) (hS _ HBW.out) (fun hH0 => ?_)
  obtain ⟨wd, hwd⟩ : ∃ W, W3.drew = W := ⟨_, rfl⟩
  rw [hwd] at HBW hH0 ⊢
  clear hwd
  have HB := HBW
  clear HBW
  refine Hd.tk 0 1 hH0 ?_
  refine Hd.tk 2 3 hH0 ?_
  refine Hd.tk 3 4 hH0 ?_
  refine Hd.tk 5 6 hH0 ?_
  refine Hd.tk 6 7 hH0 ?_
  refine Hd.two 1 13 (o := ?_) (p := ?_) ?_ ?_ (by kernel_rfl) (fun K hK => ?_) (fun K hK => ?_)
  rotate_left 2
  · simp only [Hd.ga, Hd.gs, Hd.gz]
    exact rfl
  · simp only [Hd.ga, Hd.gs, Hd.gz]
    exact rfl
  · skip
    go_simp
    refine (HOWN.out _ HB.out).mono ?_; rintro e w1 ⟨hbd, xa, xc, ya, yc, za, zc, rfl, hmo⟩
    replace HB := Lib.hid (HB.out.trans (hbd.mono HB.out.size))
    have HMO := Lib.hid hmo
    clear hbd hmo
    go_wp2_with fail
    refine hK.out _ _ (hS _ HB.out) (fun hH1 => ?_)
    clear hK K
    try simp only [Act.put, Hd.sa, Hd.sz, Hd.ss]
    refine Hd.two 4 13 (o := ?_) (p := ?_) ?_ ?_ (by kernel_rfl) (fun K hK => ?_) (fun K hK => ?_)
    rotate_left 2
    · simp only [Hd.ga, Hd.gs, Hd.gz]
      exact rfl
    · simp only [Hd.ga, Hd.gs, Hd.gz]
      exact rfl
    · skip
      go_simp
      refine (HFW.out _ HB.out).mono ?_; rintro e w4 ⟨hbd, ua, uc, rfl, hro⟩
      replace HMO := Lib.hid (HMO.out.bel hbd)
      replace HB := Lib.hid (HB.out.trans (hbd.mono HB.out.size))
      have HRF := Lib.hid (hro.mono (S' := fun _ => True) (fun _ _ _ => trivial))
      clear hbd hro
      go_wp2_with fail
      refine hK.out _ _ (hS _ HB.out) (fun hH2 => ?_)
      clear hK K
      try simp only [Act.put, Hd.sa, Hd.sz, Hd.ss]
      refine Hd.two 7 13 (o := ?_) (p := ?_) ?_ ?_ (by kernel_rfl) (fun K hK => ?_) (fun K hK => ?_)
      rotate_left 2
      · simp only [Hd.ga, Hd.gs, Hd.gz]
        exact rfl
      · simp only [Hd.ga, Hd.gs, Hd.gz]
        exact rfl
      · skip
        go_simp
        refine (HGW.out _ HB.out).mono ?_; rintro e w7 ⟨hbd, oa, oc, rfl, hro⟩
        replace HMO := Lib.hid (HMO.out.bel hbd)
        replace HRF := Lib.hid (HRF.out.below hbd)
        replace HB := Lib.hid (HB.out.trans (hbd.mono HB.out.size))
        have HRG := Lib.hid (hro.mono (S' := fun _ => True) (fun _ _ _ => trivial))
        clear hbd hro
        go_wp2_with fail
        refine hK.out _ _ (hS _ HB.out) (fun hH3 => ?_)
        clear hK K
        try simp only [Act.put, Hd.sa, Hd.sz, Hd.ss]
        refine Hd.two 8 13 (o := ?_) (p := ?_) ?_ ?_ (by kernel_rfl) (fun K hK => ?_) (fun K hK => ?_)
        rotate_left 2
        · simp only [Hd.ga, Hd.gs, Hd.gz]
          exact rfl
        · simp only [Hd.ga, Hd.gs, Hd.gz]
          exact rfl
        · skip
          go_simp
          have hrz := Resolve_any M _ _ _ _ _ F8 G8 w7 HC9.out HIN9.out HMO.out HRF.out HRG.out
          rw [HR.out] at hrz
          unfold mtV at hrz
          have HRZ := Lib.hid hrz
          clear hrz
          refine HRZ.out.mono ?_; rintro e w8 hre
          obtain ⟨hbd, s, a, sl, pr, ra, rn, rc, p, n, rfl, hrv⟩ := reso hre
          have hws := HB.out.size
          have HRV := Lib.hid (hrv.mono (S' := fun j => W3.heap.size ≤ j) (fun j h1 h2 => by omega))
          replace HB := Lib.hid (HB.out.trans (hbd.mono HB.out.size))
          clear hbd hrv hre HRZ HMO HRF HRG
          go_wp2_with fail
          refine hK.out _ _ (hS _ HB.out) (fun hH4 => ?_)
          clear hK K
          try simp only [Act.put, Hd.sa, Hd.sz, Hd.ss]
          refine Hd.tk 9 10 hH4 ?_
          refine Hd.tk 10 14 hH4 ?_
          refine Hd.tk 11 15 hH4 ?_
          refine Hd.tk 12 16 hH4 ?_
          refine Hd.on 13 (fun K hK => ?_)
          go_simp
          have hKz := Blk.made (T := CDT) (cs := #[.string ⟨#[]⟩, .int .i64 0, .int .i64 0, .int .i64 0, .slice none 0 0]) w8
          have hbd := alloc_bel w8 (.cells #[.string ⟨#[]⟩, .int .i64 0, .int .i64 0, .int .i64 0, .slice none 0 0] CDT)
          obtain ⟨wa, hal⟩ : ∃ X, w8.alloc (.cells #[.string ⟨#[]⟩, .int .i64 0, .int .i64 0, .int .i64 0, .slice none 0 0] CDT) = X := ⟨_, rfl⟩
          rw [hal] at hKz hbd
          (try rw [hal])
          obtain ⟨KC, hKC⟩ : ∃ q, w8.heap.size = q := ⟨_, rfl⟩
          rw [hKC] at hKz
          (try rw [hKC])
          have hkc : W3.heap.size ≤ KC := by have := HB.out.size; omega
          replace HRV := Lib.hid (HRV.out.mono (S' := fun j => W3.heap.size ≤ j ∧ j ≠ KC) (fun j h1 h2 => ⟨h1, by omega⟩))
          replace HRV := Lib.hid (HRV.out.kp (Kp.of hbd))
          replace HB := Lib.hid (HB.out.trans (hbd.mono HB.out.size))
          have HKC := Lib.hid hKz
          clear hbd hKz hal hKC
          refine hK.out _ _ (hS _ HB.out) (fun hH5 => ?_)
          clear hK K
          try simp only [Act.put, Hd.sa, Hd.sz, Hd.ss]
          have c0 := HKC.out.c 0 _ rfl
          have c1 := HKC.out.c 1 _ rfl
          have c2 := HKC.out.c 2 _ rfl
          have c3 := HKC.out.c 3 _ rfl
          have c4 := HKC.out.c 4 _ rfl
          have cf := HKC.out.fz
          refine Hd.on 14 (fun K hK => ?_)
          go_simp
          obtain ⟨w9, hw9⟩ : ∃ X, ((((wa.setCell ⟨KC, 0, none⟩ (.string s)).setCell ⟨KC, 1, none⟩ (.int .i64 a)).setCell ⟨KC, 2, none⟩ (.int .i64 sl)).setCell ⟨KC, 3, none⟩ (.int .i64 pr)).setCell ⟨KC, 4, none⟩ (.slice ra rn rc) = X := ⟨_, rfl⟩
          rw [hw9]
          have HB9 := Lib.hid (show Below W3.heap.size W3 w9 by rw [← hw9]; exact bel_st5 HB.out hkc)
          have HK9 := Lib.hid (show Blk CDT KC #[.string s, .int .i64 a, .int .i64 sl, .int .i64 pr, .slice ra rn rc] w9 by rw [← hw9]; exact blk_st5 HKC.out)
          have HRV9 := Lib.hid (show ResV R (fun j => W3.heap.size ≤ j ∧ j ≠ KC) w9 s a sl pr (.slice ra rn rc) p n by rw [← hw9]; exact HRV.out.kp (kp_st5 (fun h => h.2 rfl)))
          clear hw9
          refine hK.out _ _ (hS _ HB9.out) (fun hH6 => ?_)
          clear hK K
          try simp only [Act.put, Hd.sa, Hd.sz, Hd.ss]
          refine Hd.tk 15 16 hH6 ?_
          refine Hd.la 16 (fun K hK => ?_)
          go_simp
          refine hK.out _ _ ?_
          clear hK K
          try simp only [Act.put, Hd.sa, Hd.sz, Hd.ss]
          simp only [NoPanic]
          go_wp2_with fail
          go_meet
          exact ⟨KC, s, a, sl, pr, ra, rn, rc, p, n, rfl, rfl, rfl, hkc, HB9, HK9, HRV9⟩
        · skip
          go_simp
          have hKz := Blk.made (T := CDT) (cs := #[.string ⟨#[]⟩, .int .i64 0, .int .i64 0, .int .i64 0, .slice none 0 0]) w7
          have hbd := alloc_bel w7 (.cells #[.string ⟨#[]⟩, .int .i64 0, .int .i64 0, .int .i64 0, .slice none 0 0] CDT)
          obtain ⟨wa, hal⟩ : ∃ X, w7.alloc (.cells #[.string ⟨#[]⟩, .int .i64 0, .int .i64 0, .int .i64 0, .slice none 0 0] CDT) = X := ⟨_, rfl⟩
          rw [hal] at hKz hbd
          (try rw [hal])
          obtain ⟨KC, hKC⟩ : ∃ q, w7.heap.size = q := ⟨_, rfl⟩
          rw [hKC] at hKz
          (try rw [hKC])
          have hkc : W3.heap.size ≤ KC := by have := HB.out.size; omega
          replace HMO := Lib.hid (HMO.out.bel hbd)
          replace HRF := Lib.hid (HRF.out.below hbd)
          replace HRG := Lib.hid (HRG.out.below hbd)
          replace HB := Lib.hid (HB.out.trans (hbd.mono HB.out.size))
          have HKC := Lib.hid hKz
          clear hbd hKz hal hKC
          refine hK.out _ _ (hS _ HB.out) (fun hH7 => ?_)
          clear hK K
          try simp only [Act.put, Hd.sa, Hd.sz, Hd.ss]
          refine Hd.on 8 (fun K hK => ?_)
          go_simp
          have hrz := Resolve_any M _ _ _ _ _ F8 G8 wa HC9.out HIN9.out HMO.out HRF.out HRG.out
          rw [HR.out] at hrz
          unfold mtV at hrz
          have HRZ := Lib.hid hrz
          clear hrz
          refine HRZ.out.mono ?_; rintro e w8 hre
          obtain ⟨hbd, s, a, sl, pr, ra, rn, rc, p, n, rfl, hrv⟩ := reso hre
          have hws := HB.out.size
          have hkl := HKC.out.lt
          have HRV := Lib.hid (hrv.mono (S' := fun j => W3.heap.size ≤ j ∧ j ≠ KC) (fun j h1 h2 => ⟨by omega, by omega⟩))
          replace HKC := Lib.hid (HKC.out.below hbd HKC.out.lt)
          replace HB := Lib.hid (HB.out.trans (hbd.mono HB.out.size))
          clear hbd hrv hre HRZ HMO HRF HRG
          go_wp2_with fail
          refine hK.out _ _ (hS _ HB.out) (fun hH8 => ?_)
          clear hK K
          try simp only [Act.put, Hd.sa, Hd.sz, Hd.ss]
          refine Hd.tk 9 10 hH8 ?_
          refine Hd.tk 10 14 hH8 ?_
          refine Hd.tk 11 15 hH8 ?_
          refine Hd.tk 12 16 hH8 ?_
          have c0 := HKC.out.c 0 _ rfl
          have c1 := HKC.out.c 1 _ rfl
          have c2 := HKC.out.c 2 _ rfl
          have c3 := HKC.out.c 3 _ rfl
          have c4 := HKC.out.c 4 _ rfl
          have cf := HKC.out.fz
          refine Hd.on 14 (fun K hK => ?_)
          go_simp
          obtain ⟨w9, hw9⟩ : ∃ X, ((((w8.setCell ⟨KC, 0, none⟩ (.string s)).setCell ⟨KC, 1, none⟩ (.int .i64 a)).setCell ⟨KC, 2, none⟩ (.int .i64 sl)).setCell ⟨KC, 3, none⟩ (.int .i64 pr)).setCell ⟨KC, 4, none⟩ (.slice ra rn rc) = X := ⟨_, rfl⟩
          rw [hw9]
          have HB9 := Lib.hid (show Below W3.heap.size W3 w9 by rw [← hw9]; exact bel_st5 HB.out hkc)
          have HK9 := Lib.hid (show Blk CDT KC #[.string s, .int .i64 a, .int .i64 sl, .int .i64 pr, .slice ra rn rc] w9 by rw [← hw9]; exact blk_st5 HKC.out)
          have HRV9 := Lib.hid (show ResV R (fun j => W3.heap.size ≤ j ∧ j ≠ KC) w9 s a sl pr (.slice ra rn rc) p n by rw [← hw9]; exact HRV.out.kp (kp_st5 (fun h => h.2 rfl)))
          clear hw9
          refine hK.out _ _ (hS _ HB9.out) (fun hH9 => ?_)
          clear hK K
          try simp only [Act.put, Hd.sa, Hd.sz, Hd.ss]
          refine Hd.tk 15 16 hH9 ?_
          refine Hd.la 16 (fun K hK => ?_)
          go_simp
          refine hK.out _ _ ?_
          clear hK K
          try simp only [Act.put, Hd.sa, Hd.sz, Hd.ss]
          simp only [NoPanic]
          go_wp2_with fail
          go_meet
          exact ⟨KC, s, a, sl, pr, ra, rn, rc, p, n, rfl, rfl, rfl, hkc, HB9, HK9, HRV9⟩
      · skip
        go_simp
        have hKz := Blk.made (T := CDT) (cs := #[.string ⟨#[]⟩, .int .i64 0, .int .i64 0, .int .i64 0, .slice none 0 0]) w4
        have hbd := alloc_bel w4 (.cells #[.string ⟨#[]⟩, .int .i64 0, .int .i64 0, .int .i64 0, .slice none 0 0] CDT)
        obtain ⟨wa, hal⟩ : ∃ X, w4.alloc (.cells #[.string ⟨#[]⟩, .int .i64 0, .int .i64 0, .int .i64 0, .slice none 0 0] CDT) = X := ⟨_, rfl⟩
        rw [hal] at hKz hbd
        (try rw [hal])
        obtain ⟨KC, hKC⟩ : ∃ q, w4.heap.size = q := ⟨_, rfl⟩
        rw [hKC] at hKz
        (try rw [hKC])
        have hkc : W3.heap.size ≤ KC := by have := HB.out.size; omega
        replace HMO := Lib.hid (HMO.out.bel hbd)
        replace HRF := Lib.hid (HRF.out.below hbd)
        replace HB := Lib.hid (HB.out.trans (hbd.mono HB.out.size))
        have HKC := Lib.hid hKz
        clear hbd hKz hal hKC
        refine hK.out _ _ (hS _ HB.out) (fun hH10 => ?_)
        clear hK K
        try simp only [Act.put, Hd.sa, Hd.sz, Hd.ss]
        refine Hd.on 7 (fun K hK => ?_)
        go_simp
        refine (HGW.out _ HB.out).mono ?_; rintro e w7 ⟨hbd, oa, oc, rfl, hro⟩
        replace HMO := Lib.hid (HMO.out.bel hbd)
        replace HRF := Lib.hid (HRF.out.below hbd)
        replace HKC := Lib.hid (HKC.out.below hbd HKC.out.lt)
        replace HB := Lib.hid (HB.out.trans (hbd.mono HB.out.size))
        have HRG := Lib.hid (hro.mono (S' := fun _ => True) (fun _ _ _ => trivial))
        clear hbd hro
        go_wp2_with fail
        refine hK.out _ _ (hS _ HB.out) (fun hH11 => ?_)
        clear hK K
        try simp only [Act.put, Hd.sa, Hd.sz, Hd.ss]
        refine Hd.on 8 (fun K hK => ?_)
        go_simp
        have hrz := Resolve_any M _ _ _ _ _ F8 G8 w7 HC9.out HIN9.out HMO.out HRF.out HRG.out
        rw [HR.out] at hrz
        unfold mtV at hrz
        have HRZ := Lib.hid hrz
        clear hrz
        refine HRZ.out.mono ?_; rintro e w8 hre
        obtain ⟨hbd, s, a, sl, pr, ra, rn, rc, p, n, rfl, hrv⟩ := reso hre
        have hws := HB.out.size
        have hkl := HKC.out.lt
        have HRV := Lib.hid (hrv.mono (S' := fun j => W3.heap.size ≤ j ∧ j ≠ KC) (fun j h1 h2 => ⟨by omega, by omega⟩))
        replace HKC := Lib.hid (HKC.out.below hbd HKC.out.lt)
        replace HB := Lib.hid (HB.out.trans (hbd.mono HB.out.size))
        clear hbd hrv hre HRZ HMO HRF HRG
        go_wp2_with fail
        refine hK.out _ _ (hS _ HB.out) (fun hH12 => ?_)
        clear hK K
        try simp only [Act.put, Hd.sa, Hd.sz, Hd.ss]
        refine Hd.tk 9 10 hH12 ?_
        refine Hd.tk 10 14 hH12 ?_
        refine Hd.tk 11 15 hH12 ?_
        refine Hd.tk 12 16 hH12 ?_
        have c0 := HKC.out.c 0 _ rfl
        have c1 := HKC.out.c 1 _ rfl
        have c2 := HKC.out.c 2 _ rfl
        have c3 := HKC.out.c 3 _ rfl
        have c4 := HKC.out.c 4 _ rfl
        have cf := HKC.out.fz
        refine Hd.on 14 (fun K hK => ?_)
        go_simp
        obtain ⟨w9, hw9⟩ : ∃ X, ((((w8.setCell ⟨KC, 0, none⟩ (.string s)).setCell ⟨KC, 1, none⟩ (.int .i64 a)).setCell ⟨KC, 2, none⟩ (.int .i64 sl)).setCell ⟨KC, 3, none⟩ (.int .i64 pr)).setCell ⟨KC, 4, none⟩ (.slice ra rn rc) = X := ⟨_, rfl⟩
        rw [hw9]
        have HB9 := Lib.hid (show Below W3.heap.size W3 w9 by rw [← hw9]; exact bel_st5 HB.out hkc)
        have HK9 := Lib.hid (show Blk CDT KC #[.string s, .int .i64 a, .int .i64 sl, .int .i64 pr, .slice ra rn rc] w9 by rw [← hw9]; exact blk_st5 HKC.out)
        have HRV9 := Lib.hid (show ResV R (fun j => W3.heap.size ≤ j ∧ j ≠ KC) w9 s a sl pr (.slice ra rn rc) p n by rw [← hw9]; exact HRV.out.kp (kp_st5 (fun h => h.2 rfl)))
        clear hw9
        refine hK.out _ _ (hS _ HB9.out) (fun hH13 => ?_)
        clear hK K
        try simp only [Act.put, Hd.sa, Hd.sz, Hd.ss]
        refine Hd.tk 15 16 hH13 ?_
        refine Hd.la 16 (fun K hK => ?_)
        go_simp
        refine hK.out _ _ ?_
        clear hK K
        try simp only [Act.put, Hd.sa, Hd.sz, Hd.ss]
        simp only [NoPanic]
        go_wp2_with fail
        go_meet
        exact ⟨KC, s, a, sl, pr, ra, rn, rc, p, n, rfl, rfl, rfl, hkc, HB9, HK9, HRV9⟩
    · skip
      go_simp
      have hKz := Blk.made (T := CDT) (cs := #[.string ⟨#[]⟩, .int .i64 0, .int .i64 0, .int .i64 0, .slice none 0 0]) w1
      have hbd := alloc_bel w1 (.cells #[.string ⟨#[]⟩, .int .i64 0, .int .i64 0, .int .i64 0, .slice none 0 0] CDT)
      obtain ⟨wa, hal⟩ : ∃ X, w1.alloc (.cells #[.string ⟨#[]⟩, .int .i64 0, .int .i64 0, .int .i64 0, .slice none 0 0] CDT) = X := ⟨_, rfl⟩
      rw [hal] at hKz hbd
      (try rw [hal])
      obtain ⟨KC, hKC⟩ : ∃ q, w1.heap.size = q := ⟨_, rfl⟩
      rw [hKC] at hKz
      (try rw [hKC])
      have hkc : W3.heap.size ≤ KC := by have := HB.out.size; omega
      replace HMO := Lib.hid (HMO.out.bel hbd)
      replace HB := Lib.hid (HB.out.trans (hbd.mono HB.out.size))
      have HKC := Lib.hid hKz
      clear hbd hKz hal hKC
      refine hK.out _ _ (hS _ HB.out) (fun hH14 => ?_)
      clear hK K
      try simp only [Act.put, Hd.sa, Hd.sz, Hd.ss]
      refine Hd.on 4 (fun K hK => ?_)
      go_simp
      refine (HFW.out _ HB.out).mono ?_; rintro e w4 ⟨hbd, ua, uc, rfl, hro⟩
      replace HMO := Lib.hid (HMO.out.bel hbd)
      replace HKC := Lib.hid (HKC.out.below hbd HKC.out.lt)
      replace HB := Lib.hid (HB.out.trans (hbd.mono HB.out.size))
      have HRF := Lib.hid (hro.mono (S' := fun _ => True) (fun _ _ _ => trivial))
      clear hbd hro
      go_wp2_with fail
      refine hK.out _ _ (hS _ HB.out) (fun hH15 => ?_)
      clear hK K
      try simp only [Act.put, Hd.sa, Hd.sz, Hd.ss]
      refine Hd.on 7 (fun K hK => ?_)
      go_simp
      refine (HGW.out _ HB.out).mono ?_; rintro e w7 ⟨hbd, oa, oc, rfl, hro⟩
      replace HMO := Lib.hid (HMO.out.bel hbd)
      replace HKC := Lib.hid (HKC.out.below hbd HKC.out.lt)
      replace HRF := Lib.hid (HRF.out.below hbd)
      replace HB := Lib.hid (HB.out.trans (hbd.mono HB.out.size))
      have HRG := Lib.hid (hro.mono (S' := fun _ => True) (fun _ _ _ => trivial))
      clear hbd hro
      go_wp2_with fail
      refine hK.out _ _ (hS _ HB.out) (fun hH16 => ?_)
      clear hK K
      try simp only [Act.put, Hd.sa, Hd.sz, Hd.ss]
      refine Hd.on 8 (fun K hK => ?_)
      go_simp
      have hrz := Resolve_any M _ _ _ _ _ F8 G8 w7 HC9.out HIN9.out HMO.out HRF.out HRG.out
      rw [HR.out] at hrz
      unfold mtV at hrz
      have HRZ := Lib.hid hrz
      clear hrz
      refine HRZ.out.mono ?_; rintro e w8 hre
      obtain ⟨hbd, s, a, sl, pr, ra, rn, rc, p, n, rfl, hrv⟩ := reso hre
      have hws := HB.out.size
      have hkl := HKC.out.lt
      have HRV := Lib.hid (hrv.mono (S' := fun j => W3.heap.size ≤ j ∧ j ≠ KC) (fun j h1 h2 => ⟨by omega, by omega⟩))
      replace HKC := Lib.hid (HKC.out.below hbd HKC.out.lt)
      replace HB := Lib.hid (HB.out.trans (hbd.mono HB.out.size))
      clear hbd hrv hre HRZ HMO HRF HRG
      go_wp2_with fail
      refine hK.out _ _ (hS _ HB.out) (fun hH17 => ?_)
      clear hK K
      try simp only [Act.put, Hd.sa, Hd.sz, Hd.ss]
      refine Hd.tk 9 10 hH17 ?_
      refine Hd.tk 10 14 hH17 ?_
      refine Hd.tk 11 15 hH17 ?_
      refine Hd.tk 12 16 hH17 ?_
      have c0 := HKC.out.c 0 _ rfl
      have c1 := HKC.out.c 1 _ rfl
      have c2 := HKC.out.c 2 _ rfl
      have c3 := HKC.out.c 3 _ rfl
      have c4 := HKC.out.c 4 _ rfl
      have cf := HKC.out.fz
      refine Hd.on 14 (fun K hK => ?_)
      go_simp
      obtain ⟨w9, hw9⟩ : ∃ X, ((((w8.setCell ⟨KC, 0, none⟩ (.string s)).setCell ⟨KC, 1, none⟩ (.int .i64 a)).setCell ⟨KC, 2, none⟩ (.int .i64 sl)).setCell ⟨KC, 3, none⟩ (.int .i64 pr)).setCell ⟨KC, 4, none⟩ (.slice ra rn rc) = X := ⟨_, rfl⟩
      rw [hw9]
      have HB9 := Lib.hid (show Below W3.heap.size W3 w9 by rw [← hw9]; exact bel_st5 HB.out hkc)
      have HK9 := Lib.hid (show Blk CDT KC #[.string s, .int .i64 a, .int .i64 sl, .int .i64 pr, .slice ra rn rc] w9 by rw [← hw9]; exact blk_st5 HKC.out)
      have HRV9 := Lib.hid (show ResV R (fun j => W3.heap.size ≤ j ∧ j ≠ KC) w9 s a sl pr (.slice ra rn rc) p n by rw [← hw9]; exact HRV.out.kp (kp_st5 (fun h => h.2 rfl)))
      clear hw9
      refine hK.out _ _ (hS _ HB9.out) (fun hH18 => ?_)
      clear hK K
      try simp only [Act.put, Hd.sa, Hd.sz, Hd.ss]
      refine Hd.tk 15 16 hH18 ?_
      refine Hd.la 16 (fun K hK => ?_)
      go_simp
      refine hK.out _ _ ?_
      clear hK K
      try simp only [Act.put, Hd.sa, Hd.sz, Hd.ss]
      simp only [NoPanic]
      go_wp2_with fail
      go_meet
      exact ⟨KC, s, a, sl, pr, ra, rn, rc, p, n, rfl, rfl, rfl, hkc, HB9, HK9, HRV9⟩
  · skip
    go_simp
    have hKz := Blk.made (T := CDT) (cs := #[.string ⟨#[]⟩, .int .i64 0, .int .i64 0, .int .i64 0, .slice none 0 0]) wd
    have hbd := alloc_bel wd (.cells #[.string ⟨#[]⟩, .int .i64 0, .int .i64 0, .int .i64 0, .slice none 0 0] CDT)
    obtain ⟨wa, hal⟩ : ∃ X, wd.alloc (.cells #[.string ⟨#[]⟩, .int .i64 0, .int .i64 0, .int .i64 0, .slice none 0 0] CDT) = X := ⟨_, rfl⟩
    rw [hal] at hKz hbd
    (try rw [hal])
    obtain ⟨KC, hKC⟩ : ∃ q, wd.heap.size = q := ⟨_, rfl⟩
    rw [hKC] at hKz
    (try rw [hKC])
    have hkc : W3.heap.size ≤ KC := by have := HB.out.size; omega
    replace HB := Lib.hid (HB.out.trans (hbd.mono HB.out.size))
    have HKC := Lib.hid hKz
    clear hbd hKz hal hKC
    refine hK.out _ _ (hS _ HB.out) (fun hH19 => ?_)
    clear hK K
    try simp only [Act.put, Hd.sa, Hd.sz, Hd.ss]
    refine Hd.on 1 (fun K hK => ?_)
    go_simp
    refine (HOWN.out _ HB.out).mono ?_; rintro e w1 ⟨hbd, xa, xc, ya, yc, za, zc, rfl, hmo⟩
    replace HKC := Lib.hid (HKC.out.below hbd HKC.out.lt)
    replace HB := Lib.hid (HB.out.trans (hbd.mono HB.out.size))
    have HMO := Lib.hid hmo
    clear hbd hmo
    go_wp2_with fail
    refine hK.out _ _ (hS _ HB.out) (fun hH20 => ?_)
    clear hK K
    try simp only [Act.put, Hd.sa, Hd.sz, Hd.ss]
    refine Hd.on 4 (fun K hK => ?_)
    go_simp
    refine (HFW.out _ HB.out).mono ?_; rintro e w4 ⟨hbd, ua, uc, rfl, hro⟩
    replace HKC := Lib.hid (HKC.out.below hbd HKC.out.lt)
    replace HMO := Lib.hid (HMO.out.bel hbd)
    replace HB := Lib.hid (HB.out.trans (hbd.mono HB.out.size))
    have HRF := Lib.hid (hro.mono (S' := fun _ => True) (fun _ _ _ => trivial))
    clear hbd hro
    go_wp2_with fail
    refine hK.out _ _ (hS _ HB.out) (fun hH21 => ?_)
    clear hK K
    try simp only [Act.put, Hd.sa, Hd.sz, Hd.ss]
    refine Hd.on 7 (fun K hK => ?_)
    go_simp
    refine (HGW.out _ HB.out).mono ?_; rintro e w7 ⟨hbd, oa, oc, rfl, hro⟩
    replace HKC := Lib.hid (HKC.out.below hbd HKC.out.lt)
    replace HMO := Lib.hid (HMO.out.bel hbd)
    replace HRF := Lib.hid (HRF.out.below hbd)
    replace HB := Lib.hid (HB.out.trans (hbd.mono HB.out.size))
    have HRG := Lib.hid (hro.mono (S' := fun _ => True) (fun _ _ _ => trivial))
    clear hbd hro
    go_wp2_with fail
    refine hK.out _ _ (hS _ HB.out) (fun hH22 => ?_)
    clear hK K
    try simp only [Act.put, Hd.sa, Hd.sz, Hd.ss]
    refine Hd.on 8 (fun K hK => ?_)
    go_simp
    have hrz := Resolve_any M _ _ _ _ _ F8 G8 w7 HC9.out HIN9.out HMO.out HRF.out HRG.out
    rw [HR.out] at hrz
    unfold mtV at hrz
    have HRZ := Lib.hid hrz
    clear hrz
    refine HRZ.out.mono ?_; rintro e w8 hre
    obtain ⟨hbd, s, a, sl, pr, ra, rn, rc, p, n, rfl, hrv⟩ := reso hre
    have hws := HB.out.size
    have hkl := HKC.out.lt
    have HRV := Lib.hid (hrv.mono (S' := fun j => W3.heap.size ≤ j ∧ j ≠ KC) (fun j h1 h2 => ⟨by omega, by omega⟩))
    replace HKC := Lib.hid (HKC.out.below hbd HKC.out.lt)
    replace HB := Lib.hid (HB.out.trans (hbd.mono HB.out.size))
    clear hbd hrv hre HRZ HMO HRF HRG
    go_wp2_with fail
    refine hK.out _ _ (hS _ HB.out) (fun hH23 => ?_)
    clear hK K
    try simp only [Act.put, Hd.sa, Hd.sz, Hd.ss]
    refine Hd.tk 9 10 hH23 ?_
    refine Hd.tk 10 14 hH23 ?_
    refine Hd.tk 11 15 hH23 ?_
    refine Hd.tk 12 16 hH23 ?_
    have c0 := HKC.out.c 0 _ rfl
    have c1 := HKC.out.c 1 _ rfl
    have c2 := HKC.out.c 2 _ rfl
    have c3 := HKC.out.c 3 _ rfl
    have c4 := HKC.out.c 4 _ rfl
    have cf := HKC.out.fz
    refine Hd.on 14 (fun K hK => ?_)
    go_simp
    obtain ⟨w9, hw9⟩ : ∃ X, ((((w8.setCell ⟨KC, 0, none⟩ (.string s)).setCell ⟨KC, 1, none⟩ (.int .i64 a)).setCell ⟨KC, 2, none⟩ (.int .i64 sl)).setCell ⟨KC, 3, none⟩ (.int .i64 pr)).setCell ⟨KC, 4, none⟩ (.slice ra rn rc) = X := ⟨_, rfl⟩
    rw [hw9]
    have HB9 := Lib.hid (show Below W3.heap.size W3 w9 by rw [← hw9]; exact bel_st5 HB.out hkc)
    have HK9 := Lib.hid (show Blk CDT KC #[.string s, .int .i64 a, .int .i64 sl, .int .i64 pr, .slice ra rn rc] w9 by rw [← hw9]; exact blk_st5 HKC.out)
    have HRV9 := Lib.hid (show ResV R (fun j => W3.heap.size ≤ j ∧ j ≠ KC) w9 s a sl pr (.slice ra rn rc) p n by rw [← hw9]; exact HRV.out.kp (kp_st5 (fun h => h.2 rfl)))
    clear hw9
    refine hK.out _ _ (hS _ HB9.out) (fun hH24 => ?_)
    clear hK K
    try simp only [Act.put, Hd.sa, Hd.sz, Hd.ss]
    refine Hd.tk 15 16 hH24 ?_
    refine Hd.la 16 (fun K hK => ?_)
    go_simp
    refine hK.out _ _ ?_
    clear hK K
    try simp only [Act.put, Hd.sa, Hd.sz, Hd.ss]
    simp only [NoPanic]
    go_wp2_with fail
    go_meet
    exact ⟨KC, s, a, sl, pr, ra, rn, rc, p, n, rfl, rfl, rfl, hkc, HB9, HK9, HRV9⟩
 case rest =>
 clear hS HOWN HFW HGW
 obtain ⟨KC, s, a, sl, pr, ra, rn, rc, p, n, rfl, rfl, rfl, hkc, HBX, HKC, HRV⟩ := hcut
 clear HAW HM HMI HMB HFB HGB HM3 HC9 HIN9 HG8 Hg8
 cases R with
 | error E =>
  obtain ⟨p', n'⟩ := E
  have hrv := HRV.out
  unfold ResV at hrv
  obtain ⟨-, e2, -⟩ := hrv
  have hn := res_ne HR.out
  have g1 : (n != 0) = true := by rw [e2]; simpa using hn
  clear e2 hn HRV
  go_wp2_with fail
  go_ret
  exact ⟨rfl, by rw [hKM]; exact HFIN.out _ HBX.out⟩
 | ok c =>
 have hrv := HRV.out
 unfold ResV at hrv
 obtain ⟨rfl, rfl, rfl, rfl, rfl, rfl, hits⟩ := hrv
 obtain ⟨N, l1, l2, l3, l4, l5⟩ := slots_law HR.out (F.length : Int) (by rw [← HF8.out, List.length_take]; omega)
 obtain ⟨hfine, hsum⟩ := fine_res HR.out (by rw [← HF8.out, List.length_take]; omega)
 rw [HPL.out, HTL.out] at l3 l5
 rw [HPL.out] at l1
 obtain ⟨nx, hnx⟩ : ∃ q, pl + tl = q := ⟨_, rfl⟩
 rw [hnx] at l3 l5
 have hnx' : (pl : Int) + (tl : Int) = (nx : Int) := by omega
 rw [l1] at l5 HKC
 rw [l2] at HKC
 have HL5 := Lib.hid l5
 have HFI := Lib.hid hfine
 have HSU := Lib.hid hsum
 have HIT := Lib.hid hits
 have hkx := (HK3.out.below HBX.out HK3.out.lt)
 have HQX := Lib.hid (HQ3.out.below HBX.out HQ3.out.lt)
 have hlx := hkx.lt
 have m1 := hkx.c 1 _ rfl
 have m2 := hkx.c 2 _ rfl
 have HKX := Lib.hid hkx
 clear l1 l2 l5 hfine hsum hits hkx HRV HR
 have hkq := HKC.out.lt
 go_upto_region 8 with fail
 replace HIT := Lib.hid (HIT.out.mono (S' := fun j => j < wc.heap.size) (fun j _ h => h))
 have lKNHKC := HKC.out.lt
 have lKNHKX := HKX.out.lt
 have lKNHQX := HQX.out.lt
 have hKz := Blk.made (T := 3) (cs := #[.int .i64 (nx : Int)]) wc
 have hbd := alloc_bel wc (.cells #[.int .i64 (nx : Int)] 3)
 obtain ⟨W7, hal⟩ : ∃ X, wc.alloc (.cells #[.int .i64 (nx : Int)] 3) = X := ⟨_, rfl⟩
 rw [hal] at hKz hbd ⊢
 obtain ⟨KN, hKN⟩ : ∃ q, wc.heap.size = q := ⟨_, rfl⟩
 rw [hKN] at hKz ⊢
 rw [hKN] at HIT
 rw [hKN] at lKNHKC
 rw [hKN] at lKNHKX
 rw [hKN] at lKNHQX
 replace HIT := Lib.hid (HIT.out.bel hbd)
 replace HKC := Lib.hid (HKC.out.below hbd HKC.out.lt)
 have qHKC := HKC.out.lt
 replace HKX := Lib.hid (HKX.out.below hbd HKX.out.lt)
 have qHKX := HKX.out.lt
 replace HQX := Lib.hid (HQX.out.below hbd HQX.out.lt)
 have qHQX := HQX.out.lt
 replace HBX := Lib.hid (HBX.out.trans (hbd.mono HBX.out.size))
 have HKN := Lib.hid hKz
 have qKN := HKN.out.lt
 clear hbd hKz hal
 have a1 := HKC.out.c 1 _ rfl
 have a2 := HKC.out.c 2 _ rfl
 have a3 := HKN.out.c 0 _ rfl
 have a4 := HKX.out.c 1 _ rfl
 have d1 : decide ((nx : Int) ≤ (N : Int)) = true := decide_eq_true (by omega)
 have d2 : decide ((N : Int) ≤ 60) = true := decide_eq_true (by omega)
 clear m1 m2
 go_upto_region 9 with fail
 have lKGHKC := HKC.out.lt
 have lKGHKX := HKX.out.lt
 have lKGHQX := HQX.out.lt
 have lKGHKN := HKN.out.lt
 have hKz := Blk.made (T := 4) (cs := #[.bool true]) W7
 have hbd := alloc_bel W7 (.cells #[.bool true] 4)
 obtain ⟨W8, hal⟩ : ∃ X, W7.alloc (.cells #[.bool true] 4) = X := ⟨_, rfl⟩
 rw [hal] at hKz hbd ⊢
 obtain ⟨KG, hKG⟩ : ∃ q, W7.heap.size = q := ⟨_, rfl⟩
 rw [hKG] at hKz ⊢
 rw [hKG] at lKGHKC
 rw [hKG] at lKGHKX
 rw [hKG] at lKGHQX
 rw [hKG] at lKGHKN
 replace HIT := Lib.hid (HIT.out.bel hbd)
 replace HKC := Lib.hid (HKC.out.below hbd HKC.out.lt)
 have qHKC := HKC.out.lt
 replace HKX := Lib.hid (HKX.out.below hbd HKX.out.lt)
 have qHKX := HKX.out.lt
 replace HQX := Lib.hid (HQX.out.below hbd HQX.out.lt)
 have qHQX := HQX.out.lt
 replace HKN := Lib.hid (HKN.out.below hbd HKN.out.lt)
 have qHKN := HKN.out.lt
 replace HBX := Lib.hid (HBX.out.trans (hbd.mono HBX.out.size))
 have HKG := Lib.hid hKz
 have qKG := HKG.out.lt
 clear hbd hKz hal
 clear a1 a2 a3 a4
 go_upto_region 10 with fail
 have lKLHKC := HKC.out.lt
 have lKLHKX := HKX.out.lt
 have lKLHQX := HQX.out.lt
 have lKLHKN := HKN.out.lt
 have lKLHKG := HKG.out.lt
 have hKz := Blk.made (T := 55) (cs := #[.nilFunc]) W8
 have hbd := alloc_bel W8 (.cells #[.nilFunc] 55)
 obtain ⟨W9, hal⟩ : ∃ X, W8.alloc (.cells #[.nilFunc] 55) = X := ⟨_, rfl⟩
 rw [hal] at hKz hbd ⊢
 obtain ⟨KL, hKL⟩ : ∃ q, W8.heap.size = q := ⟨_, rfl⟩
 rw [hKL] at hKz ⊢
 rw [hKL] at lKLHKC
 rw [hKL] at lKLHKX
 rw [hKL] at lKLHQX
 rw [hKL] at lKLHKN
 rw [hKL] at lKLHKG
 replace HIT := Lib.hid (HIT.out.bel hbd)
 replace HKC := Lib.hid (HKC.out.below hbd HKC.out.lt)
 have qHKC := HKC.out.lt
 replace HKX := Lib.hid (HKX.out.below hbd HKX.out.lt)
 have qHKX := HKX.out.lt
 replace HQX := Lib.hid (HQX.out.below hbd HQX.out.lt)
 have qHQX := HQX.out.lt
 replace HKN := Lib.hid (HKN.out.below hbd HKN.out.lt)
 have qHKN := HKN.out.lt
 replace HKG := Lib.hid (HKG.out.below hbd HKG.out.lt)
 have qHKG := HKG.out.lt
 replace HBX := Lib.hid (HBX.out.trans (hbd.mono HBX.out.size))
 have HKL := Lib.hid hKz
 have qKL := HKL.out.lt
 clear hbd hKz hal
 have b1 := HKL.out.c 0 _ rfl
 have b2 := HKL.out.fz
 go_upto_region 11 with fail
 obtain ⟨W10, hs⟩ : ∃ X, W9.setCell ⟨KL, 0, none⟩ (.func (.func 18) #[] #[.pointer (some ⟨KG, 0, none⟩), .pointer (some ⟨KC, 0, none⟩), .pointer (some ⟨KM + 1, 0, none⟩), .pointer (some ⟨KN, 0, none⟩), .pointer (some ⟨KL, 0, none⟩)]) = X := ⟨_, rfl⟩
 rw [hs]
 have hb10 : Below KN W9 W10 := by rw [← hs]; exact (Below.refl _ W9).setCell (p := ⟨KL, 0, none⟩) (show KN ≤ KL by omega) _
 have HLX := Lib.hid (show Blk _ KL #[.func (.func 18) #[] #[.pointer (some ⟨KG, 0, none⟩), .pointer (some ⟨KC, 0, none⟩), .pointer (some ⟨KM + 1, 0, none⟩), .pointer (some ⟨KN, 0, none⟩), .pointer (some ⟨KL, 0, none⟩)]] W10 by rw [← hs]; exact HKL.out.set_ 0 _ _ rfl)
 replace HKC := Lib.hid (show Blk _ _ _ W10 by rw [← hs]; exact HKC.out.far (p := ⟨KL, 0, none⟩) (show KC ≠ KL by omega) _)
 replace HKX := Lib.hid (show Blk _ _ _ W10 by rw [← hs]; exact HKX.out.far (p := ⟨KL, 0, none⟩) (show KM ≠ KL by omega) _)
 replace HQX := Lib.hid (show Blk _ _ _ W10 by rw [← hs]; exact HQX.out.far (p := ⟨KL, 0, none⟩) (show KM + 1 ≠ KL by omega) _)
 replace HKN := Lib.hid (show Blk _ _ _ W10 by rw [← hs]; exact HKN.out.far (p := ⟨KL, 0, none⟩) (show KN ≠ KL by omega) _)
 replace HKG := Lib.hid (show Blk _ _ _ W10 by rw [← hs]; exact HKG.out.far (p := ⟨KL, 0, none⟩) (show KG ≠ KL by omega) _)
 replace HIT := Lib.hid (HIT.out.kp (Kp.lt hb10))
 replace HBX := Lib.hid (HBX.out.trans (hb10.mono (by omega)))
 clear hs hb10 HKL b1 b2
 obtain ⟨iB, hiB, hB0, hB1, hB2⟩ := info_parts (show (Tryz.prog.info? 4).map (fun i => (i.zero, i.size, i.bytes)) = some (some (.bool false), 1, 1) by kernel_rfl)
 have tB : Tryz.prog.underlying 56 = some (.slice 4) := by kernel_rfl
 have a2 := HKC.out.c 2 _ rfl
 go_wp2_with (at_make; refine wpList_make_full W10 rfl _ _ 56 rfl W10.heap.size 4 iB (.bool false) 1 tB hiB hB0 hB1 .i64 .i64 _ _ N rfl rfl rfl rfl (by rw [hB2]; omega) (by unfold maxLen; omega) (Nat.le_refl _) ?_; intro w11 hown hg11)
 have hb11 : Below W10.heap.size W10 w11 := (Below.refl _ W10).grown hg11 (Nat.le_refl _) (fun k h => by cases h)
 obtain ⟨KH, hKH⟩ : ∃ q, W10.heap.size = q := ⟨_, rfl⟩
 rw [hKH] at hown hb11 ⊢
 rcases hown.2 with ⟨hv, -⟩ | ⟨gk, cap, cur, e, hgB, hgk, hnc, hcm, hcs, htk⟩
 · cases hv
 simp only [Value.slice.injEq, Option.some.injEq, Addr.mk.injEq] at e
 obtain ⟨⟨e1, -, -⟩, -, e2⟩ := e
 subst e1
 subst e2
 have hcg : Blk 4 KH cur w11 := hgk
 have hcur : ∀ j, j < N → cur[j]? = some (.bool (decide (j < 0))) := by
  intro j hj
  have h1 : (cur.toList.take (N * 1))[j]? = (madeCells #[.bool false] (N * 1)).toList[j]? := by rw [htk]; rfl
  rw [List.getElem?_take_of_lt (by omega), toList_madeCells_one, List.getElem?_replicate, if_pos (by omega)] at h1
  rw [← Array.getElem?_toList, h1, decide_eq_false (Nat.not_lt_zero j)]
 have HCG := Lib.hid hcg
 have HCUR := Lib.hid hcur
 have HB11 := Lib.hid hb11
 have lHC := HKC.out.lt
 have lHX := HKX.out.lt
 have lHQ := HQX.out.lt
 have lHN := HKN.out.lt
 have lHG := HKG.out.lt
 have lHL := HLX.out.lt
 rw [hKH] at lHC lHX lHQ lHN lHG lHL
 clear hown hg11 hb11 hgk htk hcg hcur a2 hcs hcm hnc hgB
 go_loopw [12] (fun y wr => ∃ (i : Nat) (cu : Array Value), y = .int .i64 (i : Int) ∧ i ≤ nx ∧ Hid (Blk 4 KH cu wr) ∧ Hid (∀ j, j < N → cu[j]? = some (.bool (decide (j < i)))) ∧ Hid (Below KH W10 wr)) (fun y _ => nx - (intOf y).toNat)
 case atStart => exact ⟨0, cur, rfl, by omega, HCG, HCUR, HB11⟩
 case round =>
  obtain ⟨i, cu, rfl, hi, HCI, HCU, HBI⟩ := hrel
  have hbi : Below W10.heap.size W10 wr := by rw [hKH]; exact HBI.out
  have a3 := (HKN.out.below hbi HKN.out.lt).c 0 _ rfl
  by_cases h1 : i < nx
  · have d1 : decide ((i : Int) < (nx : Int)) = true := decide_eq_true (by omega)
    have d2 : decide ((i : Int) < (N : Int)) = true := decide_eq_true (by omega)
    have b1 : (0 : Int) ≤ (i : Int) := by omega
    have b2 : (i : Int) < (N : Int) := by omega
    have g0 := HCI.out.c i _ (HCU.out i (by omega))
    have gf := HCI.out.fz
    have hqc : i < cu.size := (Array.getElem?_eq_some_iff.1 (HCU.out i (by omega))).1
    have HC9 := Lib.hid (HCI.out.set_ i (.bool true) _ rfl)
    have HCU9 : Hid (∀ j, j < N → (cu.setIfInBounds i (.bool true))[j]? = some (.bool (decide (j < i + 1)))) := Lib.hid (by
     intro j hj
     rw [Array.getElem?_setIfInBounds]
     by_cases hjq : i = j
     · rw [if_pos hjq, if_pos hqc, decide_eq_true (show j < i + 1 by omega)]
     · rw [if_neg hjq, HCU.out j hj]
       have : decide (j < i) = decide (j < i + 1) := decide_eq_decide.2 (by omega)
       rw [this])
    have HB9 := Lib.hid (HBI.out.setCell (p := ⟨KH, i, none⟩) (Nat.le_refl KH) (.bool true))
    clear hbi
    go_wp2_with fail
    exact ⟨⟨i + 1, _, by simp, by omega, HC9, HCU9, HB9⟩, by simp only [intOf]; omega⟩
  · have d1 : decide ((i : Int) < (nx : Int)) = false := decide_eq_false (by omega)
    have hin : i = nx := by omega
    subst hin
    have hrd : Rd (Sx KG KN) boolV wr (.slice (some ⟨KH, 0, none⟩) N N) (hasN i N) := by
     refine ⟨some ⟨KH, 0, none⟩, N, by rw [hasN_len], by rw [hasN_len]; omega, by unfold maxLen; omega, (fun h => by cases h), fun _ => ⟨KH, 0, rfl, ⟨by omega, by omega⟩, HCI.out.lt, fun j z hz => ?_⟩⟩
     have hj : j < N := by have := (List.getElem?_eq_some_iff.1 hz).1; rw [hasN_len] at this; exact this
     have hz2 : z = decide (j < i) := by
      unfold hasN at hz
      rw [List.getElem?_map, List.getElem?_range hj] at hz
      simpa using hz.symm
     rw [hz2, Nat.zero_add]
     exact HCI.out.c j _ (HCU.out j hj)
    have hsl : Sl KG KC (KM + 1) KN KL (pl : Int) fa F.length fc true (i : Int) wr :=
     ⟨HKG.out.below hbi HKG.out.lt, HKN.out.below hbi HKN.out.lt, (HKC.out.below hbi HKC.out.lt).c 1 _ rfl, (HQX.out.below hbi HQX.out.lt).c 0 _ rfl, (HLX.out.below hbi HLX.out.lt).c 0 _ rfl, by omega,
      ⟨⟨by omega, by omega⟩, (HKC.out.below hbi HKC.out.lt).lt⟩, ⟨⟨by omega, by omega⟩, (HQX.out.below hbi HQX.out.lt).lt⟩, ⟨⟨by omega, by omega⟩, (HLX.out.below hbi HLX.out.lt).lt⟩⟩
    have hit := (HIT.out.bel hbi).mono (S' := Sx KG KN) (fun j hj _ => ⟨by omega, by omega⟩)
    have hlk := look_any c.body KG KC (KM + 1) KN KL (pl : Int) fa F.length fc true (i : Int) _ _ (hasN i N) wr hsl hit hrd HFI.out (by omega) (by have := HSU.out; omega) (by rw [hasN_len]; omega)
    rw [HL5.out] at hlk
    have HLK := Lib.hid hlk
    have HBW := Lib.hid (HBX.out.trans (hbi.mono HBX.out.size))
    have c4 := (HKC.out.below hbi HKC.out.lt).c 4 _ rfl
    have k0 := (HLX.out.below hbi HLX.out.lt).c 0 _ rfl
    clear hrd hsl hit hlk hbi
    go_wp2_with fail
    refine HLK.out.mono ?_; rintro e w20 ⟨rfl, hs20, hm20⟩
    have z0 := hs20.bg.c 0 _ rfl
    have z1 := hs20.bn.c 0 _ rfl
    have z2 : w20.cell? ⟨KC, 2, none⟩ = some (.int .i64 (N : Int)) := by
     have hwb : Below W10.heap.size W10 wr := by rw [hKH]; exact HBI.out
     have h := (HKC.out.below hwb HKC.out.lt)
     exact ((mvx hm20).cell (S := Sx KG KN) ⟨by omega, by omega⟩ h.lt 2).trans (h.c 2 _ rfl)
    have HBZ := Lib.hid ((HFIN.out _ HBW.out).trans (hm20.below (B := KM) (by omega) (fun k hk => by cases hk; omega) (by have := HBW.out.size; omega)))
    clear hs20 hm20
    go_wp2_with fail
    go_ret
    exact ⟨rfl, by rw [hKM]; exact HBZ.out⟩
end Rv
end Go.Proofs.YtmmgfifpjifjnaaGreatDoor
