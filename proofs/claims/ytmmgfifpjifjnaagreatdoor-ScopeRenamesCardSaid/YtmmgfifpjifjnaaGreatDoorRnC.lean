/- items: the document's, out of the program's (wip/gen/gen_rvit.py prints this). · SameItems of items that are the same; Same of codes that are. · What Resolve hands back, in one form; its place in memory. · Told; Same of codes that are the same. -/
import Derived.Test.YtmmgfifpjifjnaaGreatDoorRvB
import Derived.Test.YtmmgfifpjifjnaaGreatDoorRnA
import Derived.Test.YtmmgfifpjifjnaaGreatDoorTrC
import Derived.Deep.QuietTactic
import Derived.BigQuiet
import Derived.Test.YtmmgfifpjifjnaaGreatDoorRvF
import Derived.Test.YtmmgfifpjifjnaaGreatDoorRvA
import Derived.Deep.DeepCutAuto
set_option linter.unusedVariables false
namespace Go.Proofs.YtmmgfifpjifjnaaGreatDoor
open Go.RowKit
namespace Rv
open Bs Sm Tr
theorem takeI_snoc {α : Type} {l : List α} {k : Nat} {x : α} (h : l[k]? = some x) : l.take (k + 1) = l.take k ++ [x] := by
 obtain ⟨h1, h2⟩ := List.getElem?_eq_some_iff.1 h
 rw [List.take_succ_eq_append_getElem h1, h2]
def ItemsOk (l : List It) : Prop := ∀ (v : Value) (w : World), Its (fun _ => True) w v l →
 Calls Tryz.prog 30 #[v] w (fun e w' => Below w.heap.size w w' ∧ ∃ v', e = .returned v' ∧ OwnI 115 w.heap.size (fun b => w.heap.size ≤ b) w' v' l)
set_option maxRecDepth 100000 in
set_option maxHeartbeats 6400000 in
theorem items_step (l : List It) (hcnt : cntI l ≤ 100000) (IH : ∀ y ∈ l, ItemsOk y.kids) : ItemsOk l := by
 intro v w hl
 obtain ⟨i0, hi0, hz0, hz1, hz2⟩ := info_parts (show (Tryz.prog.info? 115).map (fun i => (i.zero, i.size, i.bytes)) = some (some (.agg #[.int .i64 0, .string ⟨#[]⟩, .int .i64 0, .int .i64 0, .int .i64 0, .slice none 0 0]), 6, 72) by kernel_rfl)
 have tsl : Tryz.prog.underlying 41 = some (.slice 115) := by kernel_rfl
 obtain ⟨a, c, rfl, hc, hm⟩ := hl.form
 obtain ⟨n, hn⟩ : ∃ n, l.length = n := ⟨_, rfl⟩
 have HN := Lib.hid hn
 have hn200 : n ≤ 100000 := by have := len_le_cntI l; omega
 rw [hn] at hl ⊢
 have HL := Lib.hid hl
 replace IH := Lib.hid IH
 clear hl hn hm hc hcnt
 go_enter Tryz.func30, Tryz.ntmps30
 go_wp2_with fail
 go_loopw [3, 8] (fun o y wr => ∃ (k : Nat), y = .int .i64 (k : Int) ∧ k ≤ n ∧ Hid (OwnI 115 w.heap.size (fun b => w.heap.size ≤ b) wr o (l.take k)) ∧ Below w.heap.size w wr) (fun _ y _ => n - (intOf y).toNat)
 case atStart => exact ⟨0, rfl, Nat.zero_le _, Lib.hid (by rw [List.take_zero]; exact OwnI.nil _ _ _ _), Below.refl _ _⟩
 obtain ⟨k, rfl, hk, hown, hbr⟩ := hrel
 by_cases hkn : k < n
 · have hdec : decide ((k : Int) < (n : Int)) = true := by simpa using hkn
   have hkw : IntKind.i64.wrap ((k : Int) + 1) = (k : Int) + 1 := IntWalk.i64_in _ (by omega)
   obtain ⟨gb, off, x, ka, kc, rfl, hx, hgb, -, ⟨c0, c1, c2, c3, c4, c5⟩, hkt⟩ := (HL.out.bel hbr).nth k hkn
   have hxl := List.mem_of_getElem? hx
   have HIH := Lib.hid (IH.out x hxl)
   have HTK := Lib.hid (takeI_snoc hx)
   have HTL : Hid ((l.take k).length = k) := Lib.hid (by rw [List.length_take, HN.out]; omega)
   go_upto_region 5 with fail
   have hX5 := alloc_bel wr (.cells #[.int .i64 x.kind, .string ⟨x.name.toArray⟩, .int .i64 x.num, .int .i64 x.slot, .int .i64 x.width, .slice ka x.kids.length kc] 58)
   have hk5 := Blk.made (T := 58) (cs := #[.int .i64 x.kind, .string ⟨x.name.toArray⟩, .int .i64 x.num, .int .i64 x.slot, .int .i64 x.width, .slice ka x.kids.length kc]) wr
   have hz5 : (wr.alloc (.cells #[.int .i64 x.kind, .string ⟨x.name.toArray⟩, .int .i64 x.num, .int .i64 x.slot, .int .i64 x.width, .slice ka x.kids.length kc] 58)).heap.size = wr.heap.size + 1 := by simp
   have hO5 := hown.out.bel hX5
   have HKT := Lib.hid (hkt.bel hX5)
   obtain ⟨W5, hW5⟩ : ∃ W, wr.alloc (.cells #[.int .i64 x.kind, .string ⟨x.name.toArray⟩, .int .i64 x.num, .int .i64 x.slot, .int .i64 x.width, .slice ka x.kids.length kc] 58) = W := ⟨_, rfl⟩
   rw [hW5] at hX5 hk5 hz5 hO5 HKT ⊢
   obtain ⟨KB, hKB⟩ : ∃ b, wr.heap.size = b := ⟨_, rfl⟩
   rw [hKB] at hk5 hz5 ⊢
   have hwKB : w.heap.size ≤ KB := by rw [← hKB]; exact hbr.size
   have hown5 : ∀ b, u3.ownBlock = some b → w.heap.size ≤ b ∧ b < KB := fun b hb => by
    have := hown.out.lt b hb
    omega
   obtain ⟨vl, hvl, hrow, hsub⟩ := hO5
   have hvll : vl.length = k := by have h := congrArg List.length hvl; rw [List.length_map, HTL.out] at h; exact h
   rw [hvll] at hrow
   have HVL := Lib.hid hvl
   have HVLL := Lib.hid hvll
   have HROW := Lib.hid hrow
   have HSUB := Lib.hid hsub
   have HOWN5 := Lib.hid hown5
   have HK5 := Lib.hid hk5
   have hbr5 := hbr.trans (hX5.mono hbr.size)
   have HBR5 := Lib.hid hbr5
   have hkl := hk5.lt
   have hS : ∀ v, Below W5.heap.size W5 v → (v.cell? ⟨KB, 0, none⟩ = some (.int .i64 x.kind) ∧ v.cell? ⟨KB, 1, none⟩ = some (.string ⟨x.name.toArray⟩) ∧ v.cell? ⟨KB, 2, none⟩ = some (.int .i64 x.num) ∧ v.cell? ⟨KB, 3, none⟩ = some (.int .i64 x.slot) ∧ v.cell? ⟨KB, 4, none⟩ = some (.int .i64 x.width) ∧ v.cell? ⟨KB, 5, none⟩ = some (.slice ka x.kids.length kc)) := fun v hv =>
    have h := HK5.out.below hv hkl
    ⟨h.c 0 _ rfl, h.c 1 _ rfl, h.c 2 _ rfl, h.c 3 _ rfl, h.c 4 _ rfl, h.c 5 _ rfl⟩
   clear hW5 hKB hX5 hk5 hvl hvll hrow hsub hown5 hown hkt hx hxl c0 c1 c2 c3 c4 c5 hbr hbr5
   refine wp_region_noPanic ?_
   refine Hd.start (fun v => v.cell? ⟨KB, 0, none⟩ = some (.int .i64 x.kind) ∧ v.cell? ⟨KB, 1, none⟩ = some (.string ⟨x.name.toArray⟩) ∧ v.cell? ⟨KB, 2, none⟩ = some (.int .i64 x.num) ∧ v.cell? ⟨KB, 3, none⟩ = some (.int .i64 x.slot) ∧ v.cell? ⟨KB, 4, none⟩ = some (.int .i64 x.width) ∧ v.cell? ⟨KB, 5, none⟩ = some (.slice ka x.kids.length kc)) (by kernel_rfl) (hS _ (Below.refl _ W5).drew) (fun hH0 => ?_)
   refine Hd.tk 0 16 hH0 ?_
   refine Hd.tk 1 2 hH0 ?_
   refine Hd.tk 2 14 hH0 ?_
   refine Hd.tk 3 4 hH0 ?_
   refine Hd.tk 4 14 hH0 ?_
   refine Hd.tk 5 6 hH0 ?_
   refine Hd.tk 6 14 hH0 ?_
   refine Hd.tk 7 8 hH0 ?_
   refine Hd.tk 8 14 hH0 ?_
   refine Hd.tk 9 10 hH0 ?_
   refine Hd.tk 10 14 hH0 ?_
   refine Hd.tk 11 12 hH0 ?_
   refine Hd.tk 12 13 hH0 ?_
   refine Hd.on 13 (fun K hK => ?_)
   go_simp
   refine (HIH.out _ _ (HKT.out.bel (Below.refl _ W5).drew)).mono ?_; rintro e w6 ⟨hb6, v6, rfl, hO6⟩
   have hT6 := hO6.its
   have hlo6 : ∀ g, v6.ownBlock = some g → W5.heap.size ≤ g := fun g hg => (hO6.lt g hg).1
   obtain ⟨fo, fc, hv6, -, -⟩ := hT6.form
   obtain ⟨fl, hfl⟩ : ∃ q, x.kids.length = q := ⟨_, rfl⟩
   rw [hfl] at hv6
   subst hv6
   have hb6' : Below W5.heap.size W5 w6 := (Below.refl _ W5).drew.trans (hb6.mono (Nat.le_refl _))
   have HB6 := Lib.hid hb6'
   have HT6 := Lib.hid (hT6.mono (S' := fun b => W5.heap.size ≤ b) (fun b hb hl => by rcases hb with hb | hb; exact hb; exact hlo6 b hb))
   clear hO6 hT6 hlo6 hb6 hb6'
   go_wp2_with fail
   refine hK.out _ _ (hS _ HB6.out) (fun hH1 => ?_)
   clear hK K
   try simp only [Act.put, Hd.sa, Hd.sz, Hd.ss]
   refine Hd.tk 14 15 hH1 ?_
   have hX9 := alloc_bel w6 (.cells #[.int .i64 x.kind, .string ⟨x.name.toArray⟩, .int .i64 x.num, .int .i64 x.slot, .int .i64 x.width, .slice fo fl fc] 115)
   have HB9 := Lib.hid (HB6.out.trans (hX9.mono HB6.out.size))
   have HX9 := Lib.hid hX9
   clear hX9
   refine Hd.on 15 (fun K hK => ?_)
   go_simp
   refine hK.out _ _ (hS _ HB9.out) (fun hH4 => ?_)
   clear hK K
   try simp only [Act.put, Hd.sa, Hd.sz, Hd.ss]
   have HR9 := Lib.hid (own_below HROW.out HB9.out)
   have hsz9 := HB9.out.size
   have hsz6 := HB6.out.size
   refine Hd.on 16 (fun K hK => ?_)
   refine step_append_lies _ rfl (.tmp 12) (.tmp 27) 41 rfl w.heap.size 115 i0 (.agg #[.int .i64 0, .string ⟨#[]⟩, .int .i64 0, .int .i64 0, .int .i64 0, .slice none 0 0]) 6 72 tsl hi0 hz0 hz1 hz2 rfl (by decide) _ k (flatI vl) (by simp [Act.eval]) HR9.out ⟨w6.heap.size, 0, none⟩ 1 1 [.int .i64 x.kind, .string ⟨x.name.toArray⟩, .int .i64 x.num, .int .i64 x.slot, .int .i64 x.width, .slice fo fl fc] (by simp [Act.eval]) rfl (cells6 w6 115 _ _ _ _ _ _) (fun u hu => by simp at hu; rcases hu with rfl | rfl | rfl | rfl | rfl | rfl <;> rfl) (by decide) (by unfold maxLen; omega) (by omega) (by omega) _ rfl ?_
   intro g cap w10 hown10 hg10 hat10 hlt10
   have hm9 : ∀ b, W5.heap.size ≤ b → (w.heap.size ≤ b ∧ u3.ownBlock ≠ some b) := fun b hb => ⟨by omega, fun h => by have := HOWN5.out b h; omega⟩
   have hsn := ownI_snoc (n := k) (S := fun b => w.heap.size ≤ b) (x := x) (kv := .slice fo fl fc) HVLL.out.symm hg10.size (fun y hy => (HSUB.out y hy).bel HB9.out) ((HT6.out.bel HX9.out).mono (fun b hb _ => hm9 b hb)) hown10 hg10 hat10
   rw [HVL.out, ← HTK.out] at hsn
   have hk10 := (hg10.block KB (HK5.out.below HB9.out hkl).lt (fun e => by have := HOWN5.out KB e.symm; omega)).trans (HK5.out.below HB9.out hkl)
   have hb59 := HBR5.out.trans (HB9.out.mono HBR5.out.size)
   have hb10 := hb59.grown hg10 hb59.size (fun k hk => (HOWN5.out k hk).1)
   have HSN := Lib.hid hsn
   have HB10 := Lib.hid hb10
   have HK10 := Lib.hid (show Blk 58 KB #[.int .i64 x.kind, .string ⟨x.name.toArray⟩, .int .i64 x.num, .int .i64 x.slot, .int .i64 x.width, .slice ka x.kids.length kc] w10 from hk10)
   clear hown10 hg10 hat10 hlt10 hsn hk10 hb10 hb59 hm9 hsz9 hsz6
   refine hK.out _ _ ⟨HK10.out.c 0 _ rfl, HK10.out.c 1 _ rfl, HK10.out.c 2 _ rfl, HK10.out.c 3 _ rfl, HK10.out.c 4 _ rfl, HK10.out.c 5 _ rfl⟩ (fun hH5 => ?_)
   clear hK K
   try simp only [Act.put, Hd.sa, Hd.sz, Hd.ss]
   refine Hd.la 17 (fun K hK => ?_)
   go_simp
   refine hK.out _ _ ?_
   clear hK K
   try simp only [Act.put, Hd.sa, Hd.sz, Hd.ss]
   simp only [NoPanic]
   clear hS
   go_wp2_with fail
   exact ⟨⟨k + 1, by simp, by omega, HSN, HB10.out⟩, by simp only [intOf]; omega⟩
 obtain rfl : k = n := by omega
 have hdec : decide ((k : Int) < (k : Int)) = false := by simp
 have hall : l.take k = l := List.take_of_length_le (by rw [HN.out]; exact Nat.le_refl _)
 rw [hall] at hown
 clear hall
 go_wp2_with fail
 go_ret
 exact ⟨hbr, _, rfl, hown.out⟩
theorem items_all : ∀ (m : Nat) (l : List It), cntI l < m → cntI l ≤ 100000 → ItemsOk l
 | 0, l, h, _ => by omega
 | m + 1, l, h, hm => items_step l hm (fun y hy => items_all m y.kids (by have := cntI_mem hy; omega) (by have := cntI_mem hy; omega))
theorem items_any (l : List It) (hm : cntI l ≤ 100000) : ItemsOk l := items_all (cntI l + 1) l (by omega) hm
theorem below_dn {B : Nat} {a w : World} (h : Below B a w) (n : Nat) : Below B a (w.drewN n) := ⟨h.os, h.tape, h.output, h.size, h.block⟩
def SmOk (l : List It) : Prop := ∀ (va vb : Value) (w : World), Its (fun _ => True) w va l → Its (fun _ => True) w vb l →
 Calls Tryz.prog 29 #[va, vb] w (fun e w' => e = .returned (.bool true) ∧ ∃ q, w' = w.drewN q)
set_option maxRecDepth 100000 in
set_option maxHeartbeats 3200000 in
theorem sm_step (l : List It) (IH : ∀ x ∈ l, SmOk x.kids) : SmOk l := by
 intro va vb w ha hb
 obtain ⟨aa, ac, rfl, ha1, ha2⟩ := ha.form
 obtain ⟨ba, bc, rfl, hb1, hb2⟩ := hb.form
 unfold maxLen at ha2 hb2
 obtain ⟨n, hn⟩ : ∃ n, l.length = n := ⟨_, rfl⟩
 rw [hn] at ha ha1 hb hb1
 rw [hn]
 have HN := Lib.hid hn
 have HA := Lib.hid ha
 have HB := Lib.hid hb
 replace IH := Lib.hid IH
 clear ha hb hn
 go_enter Tryz.func29, Tryz.ntmps29
 go_wp2_with fail
 go_loopw [5] (fun y wr => ∃ k : Nat, y = .int .i64 (k : Int) ∧ k ≤ n ∧ (∃ q, wr = w.drewN q)) (fun y _ => n - (intOf y).toNat)
 case atStart => exact ⟨0, rfl, Nat.zero_le _, ⟨0, rfl⟩⟩
 obtain ⟨k, rfl, hk, ⟨q, hq⟩⟩ := hrel
 by_cases hkn : k < n
 · have hdec : decide ((k : Int) < (n : Int)) = true := by simpa using hkn
   have hkw : IntKind.i64.wrap ((k : Int) + 1) = (k : Int) + 1 := IntWalk.i64_in _ (by omega)
   have hbel : Below w.heap.size w wr := by rw [hq]; exact below_dn (Below.refl _ _) _
   obtain ⟨g1, o1, x, ka1, kc1, hx0, hx, hg1, -, ⟨c0, c1, c2, c3, c4, c5⟩, hkt1⟩ := (HA.out.bel hbel).nth k hkn
   obtain ⟨g2, o2, z, ka2, kc2, hz0, hz, hg2, -, ⟨d0, d1, d2, d3, d4, d5⟩, hkt2⟩ := (HB.out.bel hbel).nth k hkn
   subst hx0
   subst hz0
   rw [hx] at hz
   obtain rfl := Option.some.inj hz
   clear hz
   have hkn1 : (k : Int) < (n : Int) := by omega
   have hk0 : 0 ≤ (k : Int) := by omega
   have HQR : Hid (∃ q, wr = w.drewN q) := Lib.hid ⟨q, hq⟩
   clear hq
   have hxm := List.mem_of_getElem? hx
   have HKD : Hid (∀ n, Calls Tryz.prog 29 #[.slice ka1 x.kids.length kc1, .slice ka2 x.kids.length kc2] (wr.drewN n) (fun e w' => e = .returned (.bool true) ∧ ∃ q, w' = (wr.drewN n).drewN q)) := Lib.hid (fun n => IH.out x hxm _ _ (wr.drewN n) (hkt1.bel (below_dn (Below.refl _ wr) n)) (hkt2.bel (below_dn (Below.refl _ wr) n)))
   clear hx hxm hbel hkt1 hkt2
   go_wp2_with fail
   simp only [List.append]
   refine wp_region_quiet_lit (by kernel_rfl) (by kernel_rfl) ?_
   repeat (go_big_quiet_step (first | (go_at_call 29; exact Calls.quiet_of (HKD.out _))))
   refine wpQuiet_nil ?_
   intro _ hw'
   obtain ⟨nq, hw''⟩ := hw'
   subst hw''
   go_wp2_with fail
   exact ⟨⟨k + 1, by simp, by omega, (by obtain ⟨q, h⟩ := HQR.out; rw [h]; exact ⟨_, World.drewN_drewN _ _ _⟩)⟩, by simp only [intOf]; omega⟩
 obtain rfl : k = n := by omega
 have hdec : decide ((k : Int) < (k : Int)) = false := by simp
 have HQR : Hid (∃ q, wr = w.drewN q) := Lib.hid ⟨q, hq⟩
 clear hq
 go_wp2_with fail
 go_ret
 exact ⟨rfl, HQR.out⟩
theorem sm_all : ∀ (m : Nat) (l : List It), cntI l < m → SmOk l
 | 0, l, h => by omega
 | m + 1, l, h => sm_step l (fun y hy => sm_all m y.kids (by have := cntI_mem hy; omega))
theorem sm_any (l : List It) : SmOk l := sm_all (cntI l + 1) l (by omega)
abbrev CDT : Nat := 37
def ResV (R : RE Cd) (S : Nat → Prop) (w : World) (s : ByteArray) (a sl pr : Int) (bv : Value) (p n : Int) : Prop :=
 match R with
 | .error (p', n') => p = p' ∧ n = n' ∧ s = ⟨#[]⟩ ∧ a = 0 ∧ sl = 0 ∧ pr = 0 ∧ Its S w bv []
 | .ok c => p = 0 ∧ n = 0 ∧ s = ⟨c.name.toArray⟩ ∧ a = c.args ∧ sl = c.slots ∧ pr = c.prim ∧ Its S w bv c.body
theorem ResV.kp {R : RE Cd} {S : Nat → Prop} {w w' : World} {s : ByteArray} {a sl pr p n : Int} {bv : Value} (h : ResV R S w s a sl pr bv p n) (hk : Kp S w w') : ResV R S w' s a sl pr bv p n := by
 unfold ResV at h ⊢
 cases R with
 | error E => exact ⟨h.1, h.2.1, h.2.2.1, h.2.2.2.1, h.2.2.2.2.1, h.2.2.2.2.2.1, h.2.2.2.2.2.2.kp hk⟩
 | ok c => exact ⟨h.1, h.2.1, h.2.2.1, h.2.2.2.1, h.2.2.2.2.1, h.2.2.2.2.2.1, h.2.2.2.2.2.2.kp hk⟩
theorem ResV.mono {R : RE Cd} {S S' : Nat → Prop} {w : World} {s : ByteArray} {a sl pr p n : Int} {bv : Value} (h : ResV R S w s a sl pr bv p n) (hs : ∀ b, S b → b < w.heap.size → S' b) : ResV R S' w s a sl pr bv p n := by
 unfold ResV at h ⊢
 cases R with
 | error E => exact ⟨h.1, h.2.1, h.2.2.1, h.2.2.2.1, h.2.2.2.2.1, h.2.2.2.2.2.1, h.2.2.2.2.2.2.mono hs⟩
 | ok c => exact ⟨h.1, h.2.1, h.2.2.1, h.2.2.2.1, h.2.2.2.2.1, h.2.2.2.2.2.1, h.2.2.2.2.2.2.mono hs⟩
theorem reso {R : RE Cd} {w w' : World} {e : Ending} (h : ResO R w e w') : Below w.heap.size w w' ∧ ∃ s a sl pr ba bn bc p n, e = .returned (.tuple #[.agg #[.string s, .int .i64 a, .int .i64 sl, .int .i64 pr, .slice ba bn bc], .int .i64 p, .int .i64 n]) ∧ ResV R (fun j => w.heap.size ≤ j) w' s a sl pr (.slice ba bn bc) p n := by
 obtain ⟨h1, h2⟩ := h
 refine ⟨h1, ?_⟩
 cases R with
 | error E =>
  obtain ⟨p, n⟩ := E
  exact ⟨⟨#[]⟩, 0, 0, 0, none, 0, 0, p, n, h2, rfl, rfl, rfl, rfl, rfl, rfl, Its.nil _ _⟩
 | ok c =>
  obtain ⟨bv, h2, h3⟩ := h2
  obtain ⟨ba, bc, rfl, -, -⟩ := h3.form
  exact ⟨⟨c.name.toArray⟩, c.args, c.slots, c.prim, ba, c.body.length, bc, 0, 0, h2, rfl, rfl, rfl, rfl, rfl, rfl, h3⟩
section
variable {T j k B : Nat} {a0 a1 a2 a3 a4 v0 v1 v2 v3 v4 : Value} {cs : Array Value} {S : Nat → Prop} {w w0 : World}
def st5 (k : Nat) (w : World) (v0 v1 v2 v3 v4 : Value) : World := ((((w.setCell ⟨k, 0, none⟩ v0).setCell ⟨k, 1, none⟩ v1).setCell ⟨k, 2, none⟩ v2).setCell ⟨k, 3, none⟩ v3).setCell ⟨k, 4, none⟩ v4
theorem blk_st5 (h : Blk T k #[a0, a1, a2, a3, a4] w) : Blk T k #[v0, v1, v2, v3, v4] (st5 k w v0 v1 v2 v3 v4) :=
 (((((h.set_ 0 v0 _ rfl).set_ 1 v1 _ rfl).set_ 2 v2 _ rfl).set_ 3 v3 _ rfl).set_ 4 v4 _ rfl)
theorem two_st5 : Two k k w (st5 k w v0 v1 v2 v3 v4) := (((((Two.refl k k w).km 0 v0).km 1 v1).km 2 v2).km 3 v3).km 4 v4
theorem bel_st5 (h : Below B w0 w) (hk : B ≤ k) : Below B w0 (st5 k w v0 v1 v2 v3 v4) := two_st5.bel h hk
theorem kp_st5 (hS : ¬ S k) : Kp S w (st5 k w v0 v1 v2 v3 v4) := ⟨Nat.le_of_eq two_st5.size.symm, fun b hb _ => two_st5.block b (fun e => hS (e ▸ hb)) (fun e => hS (e ▸ hb))⟩
end
abbrev RCT : Nat := 43
set_option maxRecDepth 100000 in
set_option maxHeartbeats 3200000 in
theorem told_any (s : ByteArray) (a sl pr : Int) (xa : Option Addr) (xn xc : Nat) (l : List It) (w : World) (hl : Its (fun _ => True) w (.slice xa xn xc) l) (hc : cntI l ≤ 100000) :
  Calls Tryz.prog 13 #[.agg #[.string s, .int .i64 a, .int .i64 sl, .int .i64 pr, .slice xa xn xc]] w (fun e w' => Below w.heap.size w w' ∧ ∃ ya yc, e = .returned (.agg #[.string s, .int .i64 a, .int .i64 sl, .int .i64 pr, .slice ya xn yc]) ∧ Its (fun j => w.heap.size ≤ j) w' (.slice ya xn yc) l) := by
 have HXN := Lib.hid hl.len.1
 have hX := (alloc_bel w (.cells #[.string s, .int .i64 a, .int .i64 sl, .int .i64 pr, .slice xa xn xc] CDT)).trans ((alloc_bel (w.alloc (.cells #[.string s, .int .i64 a, .int .i64 sl, .int .i64 pr, .slice xa xn xc] CDT)) (.cells #[.string ⟨#[]⟩, .int .i64 0, .int .i64 0, .int .i64 0, .slice none 0 0] RCT)).mono (by simp))
 have hk := (Blk.made (T := CDT) (cs := #[.string s, .int .i64 a, .int .i64 sl, .int .i64 pr, .slice xa xn xc]) w).below (alloc_bel _ (.cells #[.string ⟨#[]⟩, .int .i64 0, .int .i64 0, .int .i64 0, .slice none 0 0] RCT)) (by simp)
 have hq := Blk.made (T := RCT) (cs := #[.string ⟨#[]⟩, .int .i64 0, .int .i64 0, .int .i64 0, .slice none 0 0]) (w.alloc (.cells #[.string s, .int .i64 a, .int .i64 sl, .int .i64 pr, .slice xa xn xc] CDT))
 have hs1 : (w.alloc (.cells #[.string s, .int .i64 a, .int .i64 sl, .int .i64 pr, .slice xa xn xc] CDT)).heap.size = w.heap.size + 1 := by simp
 rw [hs1] at hq
 have hl0 := hl.bel hX
 go_enter Tryz.func13, Tryz.ntmps13
 go_upto_region 1 with fail
 obtain ⟨W0, hal⟩ : ∃ W, (w.alloc (.cells #[.string s, .int .i64 a, .int .i64 sl, .int .i64 pr, .slice xa xn xc] CDT)).alloc (.cells #[.string ⟨#[]⟩, .int .i64 0, .int .i64 0, .int .i64 0, .slice none 0 0] RCT) = W := ⟨_, rfl⟩
 rw [hal] at hX hk hq hl0 ⊢
 obtain ⟨KM, hKM⟩ : ∃ b, w.heap.size = b := ⟨_, rfl⟩
 rw [hKM] at hk hq hX ⊢
 clear hal hs1
 have HX := Lib.hid hX
 have HK := Lib.hid hk
 have HQ := Lib.hid hq
 have HL := Lib.hid hl0
 have hkm := hk.lt
 have hqm := hq.lt
 have hS : ∀ v, Below W0.heap.size W0 v → (v.cell? ⟨KM, 0, none⟩ = some (.string s) ∧ v.cell? ⟨KM, 1, none⟩ = some (.int .i64 a) ∧ v.cell? ⟨KM, 2, none⟩ = some (.int .i64 sl) ∧ v.cell? ⟨KM, 3, none⟩ = some (.int .i64 pr) ∧ v.cell? ⟨KM, 4, none⟩ = some (.slice xa xn xc)) := fun v hv => by
  have h1 := HK.out.below hv HK.out.lt
  exact ⟨h1.c 0 _ rfl, h1.c 1 _ rfl, h1.c 2 _ rfl, h1.c 3 _ rfl, h1.c 4 _ rfl⟩
 clear hX hk hq hl0 hl
 have HBW : Hid (Below W0.heap.size W0 W0.drew) := Lib.hid (Below.refl _ W0).drew
 refine wp_region_noPanic ?_
 refine Hd.start (fun v => v.cell? ⟨KM, 0, none⟩ = some (.string s) ∧ v.cell? ⟨KM, 1, none⟩ = some (.int .i64 a) ∧ v.cell? ⟨KM, 2, none⟩ = some (.int .i64 sl) ∧ v.cell? ⟨KM, 3, none⟩ = some (.int .i64 pr) ∧ v.cell? ⟨KM, 4, none⟩ = some (.slice xa xn xc)) (by kernel_rfl) (hS _ HBW.out) (fun hH0 => ?_)
 obtain ⟨wd, hwd⟩ : ∃ W, W0.drew = W := ⟨_, rfl⟩
 rw [hwd] at HBW hH0 ⊢
 clear hwd
 refine Hd.tk 0 1 hH0 ?_
 refine Hd.tk 1 11 hH0 ?_
 refine Hd.tk 2 3 hH0 ?_
 refine Hd.tk 3 11 hH0 ?_
 refine Hd.tk 4 5 hH0 ?_
 refine Hd.tk 5 11 hH0 ?_
 refine Hd.tk 6 7 hH0 ?_
 refine Hd.tk 7 11 hH0 ?_
 refine Hd.tk 8 9 hH0 ?_
 refine Hd.tk 9 10 hH0 ?_
 refine Hd.on 10 (fun K hK => ?_)
 go_simp
 refine (items_any l hc _ wd (HL.out.bel HBW.out)).mono ?_; rintro e w6 ⟨hb6, v6, rfl, hO6⟩
 have hT6 := hO6.its
 have hlo6 : ∀ g, v6.ownBlock = some g → wd.heap.size ≤ g := fun g hg => (hO6.lt g hg).1
 obtain ⟨fo, fc, hv6, -, -⟩ := hT6.form
 rw [← HXN.out] at hv6
 subst hv6
 have hws := HBW.out.size
 have HB6 := Lib.hid (HBW.out.trans (hb6.mono hws))
 have HT6 := Lib.hid (hT6.mono (S' := fun b => W0.heap.size ≤ b) (fun b hb hl => by rcases hb with hb | hb; omega; have := hlo6 b hb; omega))
 clear hO6 hT6 hlo6 hb6
 go_wp2_with fail
 refine hK.out _ _ (hS _ HB6.out) (fun hH1 => ?_)
 clear hK K
 try simp only [Act.put, Hd.sa, Hd.sz, Hd.ss]
 refine Hd.tk 11 12 hH1 ?_
 have hk6 := HQ.out.below HB6.out HQ.out.lt
 have c0 := hk6.c 0 _ rfl
 have c1 := hk6.c 1 _ rfl
 have c2 := hk6.c 2 _ rfl
 have c3 := hk6.c 3 _ rfl
 have c4 := hk6.c 4 _ rfl
 have cf := hk6.fz
 refine Hd.la 12 (fun K hK => ?_)
 go_simp
 refine hK.out _ _ ?_
 clear hK K
 try simp only [Act.put, Hd.sa, Hd.sz, Hd.ss]
 simp only [NoPanic]
 obtain ⟨w9, hw9⟩ : ∃ X, ((((w6.setCell ⟨KM + 1, 0, none⟩ (.string s)).setCell ⟨KM + 1, 1, none⟩ (.int .i64 a)).setCell ⟨KM + 1, 2, none⟩ (.int .i64 sl)).setCell ⟨KM + 1, 3, none⟩ (.int .i64 pr)).setCell ⟨KM + 1, 4, none⟩ (.slice fo xn fc) = X := ⟨_, rfl⟩
 rw [hw9]
 have HB9 := Lib.hid (show Below KM w w9 by rw [← hw9]; exact bel_st5 (HX.out.trans (HB6.out.mono (by omega))) (by omega))
 have hk9 : Blk RCT (KM + 1) #[.string s, .int .i64 a, .int .i64 sl, .int .i64 pr, .slice fo xn fc] w9 := by rw [← hw9]; exact blk_st5 hk6
 have HT9 := Lib.hid (show Its (fun b => W0.heap.size ≤ b) w9 (.slice fo xn fc) l by rw [← hw9]; exact HT6.out.kp (kp_st5 (by omega)))
 have e0 := hk9.c 0 _ rfl
 have e1 := hk9.c 1 _ rfl
 have e2 := hk9.c 2 _ rfl
 have e3 := hk9.c 3 _ rfl
 have e4 := hk9.c 4 _ rfl
 clear c0 c1 c2 c3 c4 cf hk6 hw9 hS
 go_wp2_with fail
 refine bodyPost_ret (v := .agg #[.string s, .int .i64 a, .int .i64 sl, .int .i64 pr, .slice fo xn fc]) (by simp [results, Tryz.results13, go_sem, e0, e1, e2, e3, e4]) rfl ?_
 exact ⟨by rw [hKM]; exact HB9.out, _, _, rfl, HT9.out.mono (fun j hj _ => by omega)⟩
set_option maxRecDepth 100000 in
set_option maxHeartbeats 3200000 in
theorem csame_any (s : ByteArray) (a sl pr : Int) (xa ya : Option Addr) (xn xc yc : Nat) (l : List It) (w : World) (h1 : Its (fun _ => True) w (.slice xa xn xc) l) (h2 : Its (fun _ => True) w (.slice ya xn yc) l) :
  Calls Tryz.prog 12 #[.agg #[.string s, .int .i64 a, .int .i64 sl, .int .i64 pr, .slice xa xn xc], .agg #[.string s, .int .i64 a, .int .i64 sl, .int .i64 pr, .slice ya xn yc]] w (Back (.bool true) w) := by
 have hX := (alloc_bel w (.cells #[.string s, .int .i64 a, .int .i64 sl, .int .i64 pr, .slice xa xn xc] RCT)).trans ((alloc_bel (w.alloc (.cells #[.string s, .int .i64 a, .int .i64 sl, .int .i64 pr, .slice xa xn xc] RCT)) (.cells #[.string s, .int .i64 a, .int .i64 sl, .int .i64 pr, .slice ya xn yc] RCT)).mono (by simp))
 have hk := (Blk.made (T := RCT) (cs := #[.string s, .int .i64 a, .int .i64 sl, .int .i64 pr, .slice xa xn xc]) w).below (alloc_bel _ (.cells #[.string s, .int .i64 a, .int .i64 sl, .int .i64 pr, .slice ya xn yc] RCT)) (by simp)
 have hq := Blk.made (T := RCT) (cs := #[.string s, .int .i64 a, .int .i64 sl, .int .i64 pr, .slice ya xn yc]) (w.alloc (.cells #[.string s, .int .i64 a, .int .i64 sl, .int .i64 pr, .slice xa xn xc] RCT))
 have hs1 : (w.alloc (.cells #[.string s, .int .i64 a, .int .i64 sl, .int .i64 pr, .slice xa xn xc] RCT)).heap.size = w.heap.size + 1 := by simp
 rw [hs1] at hq
 have h10 := h1.bel hX
 have h20 := h2.bel hX
 go_enter Tryz.func12, Tryz.ntmps12
 go_upto_region 1 with fail
 obtain ⟨W0, hal⟩ : ∃ W, (w.alloc (.cells #[.string s, .int .i64 a, .int .i64 sl, .int .i64 pr, .slice xa xn xc] RCT)).alloc (.cells #[.string s, .int .i64 a, .int .i64 sl, .int .i64 pr, .slice ya xn yc] RCT) = W := ⟨_, rfl⟩
 rw [hal] at hX hk hq h10 h20 ⊢
 obtain ⟨KM, hKM⟩ : ∃ b, w.heap.size = b := ⟨_, rfl⟩
 rw [hKM] at hk hq hX ⊢
 clear hal hs1 h1 h2
 have HX := Lib.hid hX
 have c0 := hk.c 0 _ rfl
 have c1 := hk.c 1 _ rfl
 have c2 := hk.c 2 _ rfl
 have c3 := hk.c 3 _ rfl
 have c4 := hk.c 4 _ rfl
 have d0 := hq.c 0 _ rfl
 have d1 := hq.c 1 _ rfl
 have d2 := hq.c 2 _ rfl
 have d3 := hq.c 3 _ rfl
 have d4 := hq.c 4 _ rfl
 have HSM := Lib.hid (sm_any l _ _ W0 h10 h20)
 clear hX hk hq h10 h20
 go_wp2_with fail
 refine HSM.out.mono ?_; rintro e w2 ⟨rfl, q, rfl⟩
 go_wp2_with fail
 go_ret
 exact ⟨rfl, by rw [hKM]; exact below_dn HX.out q⟩
end Rv
end Go.Proofs.YtmmgfifpjifjnaaGreatDoor
