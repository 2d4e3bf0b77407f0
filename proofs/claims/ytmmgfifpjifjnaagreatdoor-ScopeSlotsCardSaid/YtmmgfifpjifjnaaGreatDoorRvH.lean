/- ScopeSlots, the walk, 1: look (wip/gen/gen_rvxc.py prints this). · ScopeSlots, the walk, 2: look, of any items. -/
import Derived.Test.YtmmgfifpjifjnaaGreatDoorRvF
import Derived.Test.YtmmgfifpjifjnaaGreatDoorRvA
set_option linter.unusedVariables false
namespace Go.Proofs.YtmmgfifpjifjnaaGreatDoor
open Go.RowKit
namespace Rv
open Bs Sm Tr
def boolV (b : Bool) : Value := .bool b
def Sx (kg kn : Nat) (j : Nat) : Prop := j ≠ kg ∧ j ≠ kn
structure Sl (kg kc kw kn kl : Nat) (args : Int) (fa : Option Addr) (nf fc : Nat) (g : Bool) (nx : Int) (w : World) : Prop where
 bg : Blk 4 kg #[.bool g] w
 bn : Blk 3 kn #[.int .i64 nx] w
 ca : w.cell? ⟨kc, 1, none⟩ = some (.int .i64 args)
 cw : w.cell? ⟨kw, 0, none⟩ = some (.slice fa nf fc)
 cl : w.cell? ⟨kl, 0, none⟩ = some (.func (.func 18) #[] #[.pointer (some ⟨kg, 0, none⟩), .pointer (some ⟨kc, 0, none⟩), .pointer (some ⟨kw, 0, none⟩), .pointer (some ⟨kn, 0, none⟩), .pointer (some ⟨kl, 0, none⟩)])
 gn : kg ≠ kn
 cg : Sx kg kn kc ∧ kc < w.heap.size
 wg : Sx kg kn kw ∧ kw < w.heap.size
 lg : Sx kg kn kl ∧ kl < w.heap.size
section
variable {kg kc kw kn kl nf fc : Nat} {args nx : Int} {fa : Option Addr} {g : Bool} {w w' : World}
theorem Sl.bel (h : Sl kg kc kw kn kl args fa nf fc g nx w) (hb : Below w.heap.size w w') : Sl kg kc kw kn kl args fa nf fc g nx w' := by
 have hk := fun (k : Nat) (hk : k < w.heap.size) i => (Kp.of hb).cell (S := fun _ => True) trivial hk i
 have hs := hb.size
 exact ⟨h.bg.below hb h.bg.lt, h.bn.below hb h.bn.lt, (hk _ h.cg.2 _).trans h.ca, (hk _ h.wg.2 _).trans h.cw, (hk _ h.lg.2 _).trans h.cl, h.gn, ⟨h.cg.1, by have := h.cg.2; omega⟩, ⟨h.wg.1, by have := h.wg.2; omega⟩, ⟨h.lg.1, by have := h.lg.2; omega⟩⟩
theorem mvx (h : Mv2 kn (some kg) w w') : Kp (Sx kg kn) w w' := h.kp (fun e => e.2 rfl) (fun k e s => by cases e; exact s.1 rfl)
theorem Sl.low {w0 : World} {g0 : Bool} {n0 : Int} (h : Sl kg kc kw kn kl args fa nf fc g nx w) (hb : Below w0.heap.size w w') (h0 : Sl kg kc kw kn kl args fa nf fc g0 n0 w0) : Sl kg kc kw kn kl args fa nf fc g nx w' := by
 have hs := hb.size
 exact ⟨h.bg.below hb h0.bg.lt, h.bn.below hb h0.bn.lt, ((Kp.lt hb).cell h0.cg.2 h.cg.2 _).trans h.ca, ((Kp.lt hb).cell h0.wg.2 h.wg.2 _).trans h.cw, ((Kp.lt hb).cell h0.lg.2 h.lg.2 _).trans h.cl, h.gn, ⟨h.cg.1, by have := h.cg.2; omega⟩, ⟨h.wg.1, by have := h.wg.2; omega⟩, ⟨h.lg.1, by have := h.lg.2; omega⟩⟩
theorem Sl.setg (h : Sl kg kc kw kn kl args fa nf fc g nx w) (g' : Bool) : Sl kg kc kw kn kl args fa nf fc g' nx (w.setCell ⟨kg, 0, none⟩ (.bool g')) := by
 have hm : Mv2 kn (some kg) w (w.setCell ⟨kg, 0, none⟩ (.bool g')) := ⟨rfl, rfl, rfl, by simp [World.setCell], fun j hj h1 h2 => Below.heap_setCell _ ⟨kg, 0, none⟩ _ j (fun e => h2 (by rw [e]))⟩
 have hk := fun (k : Nat) (hx : Sx kg kn k) (hk : k < w.heap.size) i => (mvx hm).cell hx hk i
 have hs := hm.size
 exact ⟨h.bg.set_ 0 _ _ rfl, h.bn.far (p := ⟨kg, 0, none⟩) (fun e => h.gn e.symm) _, (hk _ h.cg.1 h.cg.2 _).trans h.ca, (hk _ h.wg.1 h.wg.2 _).trans h.cw, (hk _ h.lg.1 h.lg.2 _).trans h.cl, h.gn, ⟨h.cg.1, by have := h.cg.2; omega⟩, ⟨h.wg.1, by have := h.wg.2; omega⟩, ⟨h.lg.1, by have := h.lg.2; omega⟩⟩
theorem Sl.setn (h : Sl kg kc kw kn kl args fa nf fc g nx w) (nx' : Int) : Sl kg kc kw kn kl args fa nf fc g nx' (w.setCell ⟨kn, 0, none⟩ (.int .i64 nx')) := by
 have hm : Mv2 kn (some kg) w (w.setCell ⟨kn, 0, none⟩ (.int .i64 nx')) := (Mv2.refl _ _ _).set_ 0 _
 have hk := fun (k : Nat) (hx : Sx kg kn k) (hk : k < w.heap.size) i => (mvx hm).cell hx hk i
 have hs := hm.size
 exact ⟨h.bg.far (p := ⟨kn, 0, none⟩) h.gn _, h.bn.set_ 0 _ _ rfl, (hk _ h.cg.1 h.cg.2 _).trans h.ca, (hk _ h.wg.1 h.wg.2 _).trans h.cw, (hk _ h.lg.1 h.lg.2 _).trans h.cl, h.gn, ⟨h.cg.1, by have := h.cg.2; omega⟩, ⟨h.wg.1, by have := h.wg.2; omega⟩, ⟨h.lg.1, by have := h.lg.2; omega⟩⟩
theorem drop_get {α : Type} {l : List α} {k : Nat} {x : α} (h : l[k]? = some x) : l.drop k = x :: l.drop (k + 1) := by
 obtain ⟨h1, h2⟩ := List.getElem?_eq_some_iff.1 h
 rw [List.drop_eq_getElem_cons h1, h2]
theorem mv_setg (g' : Value) : Mv2 kn (some kg) w (w.setCell ⟨kg, 0, none⟩ g') := ⟨rfl, rfl, rfl, by simp [World.setCell], fun j hj h1 h2 => Below.heap_setCell _ ⟨kg, 0, none⟩ _ j (fun e => h2 (by rw [e]))⟩
theorem Mv2.tr {b : Nat} {q : Option Nat} {w w' w2 : World} (h : Mv2 b q w w') (k : Mv2 b q w' w2) : Mv2 b q w w2 :=
 ⟨k.os.trans h.os, k.tape.trans h.tape, k.output.trans h.output, Nat.le_trans h.size k.size, fun j hj h1 h2 => (k.block j (Nat.lt_of_lt_of_le hj h.size) h1 h2).trans (h.block j hj h1 h2)⟩
end
def LookOk (l : List It) : Prop := ∀ (kg kc kw kn kl : Nat) (args : Int) (fa : Option Addr) (nf fc : Nat) (g : Bool) (nx : Int) (iv hv : Value) (has : List Bool) (w : World), Sl kg kc kw kn kl args fa nf fc g nx w → Its (Sx kg kn) w iv l → Rd (Sx kg kn) boolV w hv has → FineL l → 0 ≤ nx → nx + wsumL l ≤ 1000000 → has.length ≤ 1000000 →
 Calls Tryz.prog 18 #[iv, hv, .pointer (some ⟨kg, 0, none⟩), .pointer (some ⟨kc, 0, none⟩), .pointer (some ⟨kw, 0, none⟩), .pointer (some ⟨kn, 0, none⟩), .pointer (some ⟨kl, 0, none⟩)] w
  (fun e w' => e = .returned (.tuple #[]) ∧ Sl kg kc kw kn kl args fa nf fc (lookL nf args l has (g, nx)).1 (lookL nf args l has (g, nx)).2 w' ∧ Mv2 kn (some kg) w w')
set_option maxRecDepth 100000 in
set_option maxHeartbeats 25600000 in
theorem look_step (l : List It) (IH : ∀ x ∈ l, LookOk x.kids) : LookOk l := by
 intro kg kc kw kn kl args fa nf fc g nx iv hv has w hS hI hH hF hnx hws hhl
 have hI0 := hI
 have hH0 := hH
 obtain ⟨ia, ic, rfl, hic, him⟩ := hI.form
 obtain ⟨ha, hc, rfl, hhc, hhm⟩ := hH.form
 unfold maxLen at him hhm
 obtain ⟨ll, hll⟩ : ∃ k, l.length = k := ⟨_, rfl⟩
 rw [hll] at hI hic
 obtain ⟨hl, hhl2⟩ : ∃ k, has.length = k := ⟨_, rfl⟩
 rw [hhl2] at hH hhc hhl
 rw [hll, hhl2]
 obtain ⟨R, hR⟩ : ∃ R, lookL nf args l has (g, nx) = R := ⟨_, rfl⟩
 rw [hR]
 have HS := Lib.hid hS
 have HI := Lib.hid hI
 have HH := Lib.hid hH
 have HF := Lib.hid hF
 have HR := Lib.hid hR
 have HLL := Lib.hid hll
 have HHL := Lib.hid hhl2
 have HIH := Lib.hid IH
 clear hS hI hH hF hR hll hhl2 hI0 hH0 IH
 go_enter Tryz.func18, Tryz.ntmps18
 go_wp2_with fail
 go_loopw [15] (fun y wr => ∃ (k : Nat) (g' : Bool) (nx' : Int), y = .int .i64 (k : Int) ∧ k ≤ ll ∧ 0 ≤ nx' ∧ Hid (lookL nf args (l.drop k) has (g', nx') = R) ∧ Hid (Sl kg kc kw kn kl args fa nf fc g' nx' wr) ∧ Hid (FineL (l.drop k)) ∧ Hid (nx' + wsumL (l.drop k) ≤ 1000000) ∧ Hid (Mv2 kn (some kg) w wr)) (fun y _ => ll - (intOf y).toNat)
 case atStart => exact ⟨0, g, nx, rfl, by omega, hnx, HR, HS, HF, Lib.hid hws, Lib.hid (Mv2.refl _ _ _)⟩
 case round =>
  obtain ⟨k, g', nx', rfl, hk, hn', HE, HSk, HFk, HWk, HMV⟩ := hrel
  by_cases hkk : k < ll
  · have hd : decide ((k : Int) < (ll : Int)) = true := decide_eq_true (by omega)
    have hki : (0 : Int) ≤ (k : Int) := by omega
    obtain ⟨bi, off, x, ya, yc, hia, hx, hbi, hSx, hrow, hkids⟩ := (HI.out.kp (mvx HMV.out)).nth k hkk
    subst hia
    obtain ⟨i0, i1, i2, i3, i4, i5⟩ := hrow
    have hdc := drop_get hx
    have hE1 := HE.out
    rw [hdc, lookL_cons] at hE1
    have hF1 := HFk.out
    rw [hdc] at hF1
    have hF2 := hF1.head
    have hW1 := HWk.out
    rw [hdc, wsumL_cons] at hW1
    obtain ⟨sl, hsl⟩ : ∃ q : Nat, x.slot = (q : Int) := ⟨x.slot.toNat, by have := hF2.1.1; omega⟩
    rw [hsl] at i3
    have hsl1 : sl ≤ 1000 := by have := hF2.1.2.1; omega
    have hw0 := hF2.1.2.2.1
    have hw1 := hF2.1.2.2.2
    have hbb1 := alloc_bel wr (.cells #[.int .i64 x.kind, .string ⟨x.name.toArray⟩, .int .i64 x.num, .int .i64 (sl : Int), .int .i64 x.width, .slice ya x.kids.length yc] IT)
    have hmk1 := Blk.made (T := IT) (cs := #[.int .i64 x.kind, .string ⟨x.name.toArray⟩, .int .i64 x.num, .int .i64 (sl : Int), .int .i64 x.width, .slice ya x.kids.length yc]) wr
    obtain ⟨W1, hal1⟩ : ∃ W, wr.alloc (.cells #[.int .i64 x.kind, .string ⟨x.name.toArray⟩, .int .i64 x.num, .int .i64 (sl : Int), .int .i64 x.width, .slice ya x.kids.length yc] IT) = W := ⟨_, rfl⟩
    rw [hal1] at hbb1 hmk1
    have hS1 := HSk.out.bel hbb1
    have hM1 : Mv2 kn (some kg) wr W1 := Mv2.of_bel hbb1
    have hkd := hkids.bel hbb1
    have hHW := (HH.out.kp (mvx HMV.out)).kp (mvx hM1)
    have hkx : Sx kg kn wr.heap.size := ⟨fun e => by have := HSk.out.bg.lt; omega, fun e => by have := HSk.out.bn.lt; omega⟩
    have x0 := hmk1.c 0 _ rfl
    have HE1 := Lib.hid hE1
    have HF2 := Lib.hid hF2
    have HWW := Lib.hid hW1
    have HX := Lib.hid hx
    have HS1 := Lib.hid hS1
    have HM1 := Lib.hid hM1
    have HKD := Lib.hid hkd
    have HHW := Lib.hid hHW
    have HX1 := Lib.hid hmk1
    have HKX := Lib.hid hkx
    have HSL := Lib.hid hsl
    clear hE1 hF1 hF2 hW1 hx hS1 hM1 hkd hHW hmk1 hbb1 hkids hSx hdc hkx hsl
    go_upto_region 4 with fail
    try rw [hal1]
    clear hal1 i0 i1 i2 i3 i4 i5
    generalize wr.heap.size = kx at *
    by_cases hx10 : x.kind = 10
    · have hxk := hx10
      have e10 : (x.kind == 10) = true := by rw [hxk]; rfl
      have e12 : (x.kind == 12) = false := by rw [hxk]; rfl
      have e11 : (x.kind == 11) = false := by rw [hxk]; rfl
      have e13 : (x.kind == 13) = false := by rw [hxk]; rfl
      have e17 : (x.kind == 17) = false := by rw [hxk]; rfl
      obtain ⟨bb, hbb⟩ : ∃ z, has.getD sl false = z := ⟨_, rfl⟩
      obtain ⟨gg, hgg⟩ : ∃ z, (g' && (decide ((0 : Int) ≤ (sl : Int)) && decide ((sl : Int) < (hl : Int)) && bb && (true || decide (args ≤ (sl : Int))))) = z := ⟨_, rfl⟩
      have hls : lookS nf args x has (g', nx') = (gg, nx') := by
       unfold lookS
       rw [if_pos (by omega), HSL.out, HHL.out, e10, Int.toNat_natCast, hbb]
       show (g' && _, nx') = _
       rw [hgg]
      have hin : innerS x has = has := by unfold innerS; rw [if_neg (by omega)]
      have x3 := HX1.out.c 3 _ rfl
      have b0 := HS1.out.bg.c 0 _ rfl
      have bf := HS1.out.bg.fz
      have ca := HS1.out.ca
      have x0 := HX1.out.c 0 _ rfl
      have hz : (0 : Int) ≤ (sl : Int) := by omega
      go_upto_region 7 with fail
      have HGG := Lib.hid hgg
      have HLS := Lib.hid hls
      have HIN := Lib.hid hin
      clear hgg hls hin
      cases g' with
      | false =>
       obtain rfl : gg = false := by rw [← HGG.out]; simp [*]
       go_upto_region 19 with fail
       obtain ⟨wc, hcut⟩ : ∃ W, W1.setCell ⟨kg, 0, none⟩ (.bool false) = W := ⟨_, rfl⟩
       try rw [hcut]
       clear x3 b0 bf
       have HS2 := Lib.hid (show Sl kg kc kw kn kl args fa nf fc false nx' wc from hcut ▸ HS1.out.setg false)
       have HM2 := Lib.hid (show Mv2 kn (some kg) W1 wc from hcut ▸ mv_setg _)
       have HXB := Lib.hid (show Blk IT kx #[.int .i64 x.kind, .string ⟨x.name.toArray⟩, .int .i64 x.num, .int .i64 (sl : Int), .int .i64 x.width, .slice ya x.kids.length yc] wc from hcut ▸ HX1.out.far (p := ⟨kg, 0, none⟩) HKX.out.1 _)
       have hE2 := HE1.out
       rw [HLS.out, HIN.out] at hE2
       have HE2 := Lib.hid hE2
       have hnx2 : (0 : Int) ≤ nx' := hn'
       have hlen2 : has.length ≤ 1000000 := by have := HHL.out; omega
       clear hE2 hcut
       have HC := Lib.hid (HIH.out x (List.mem_of_getElem? HX.out) kg kc kw kn kl args fa nf fc ((false, nx')).1 ((false, nx')).2 (.slice ya x.kids.length yc) (.slice ha hl hc) has wc HS2.out (HKD.out.kp (mvx HM2.out)) (HHW.out.kp (mvx HM2.out)) HF2.out.2.1 hnx2 (by have h1 := HF2.out.1.2.2.1; have h2 := wsum_nn HF2.out.2.2; have h3 := HWW.out; omega) hlen2)
       have cl := HS2.out.cl
       have x5 := (HXB.out).c 5 _ rfl
       go_wp2_with fail
       refine HC.out.mono ?_; rintro e w8 ⟨rfl, hs8, hm8⟩
       have hM8 := (HMV.out.tr HM1.out).tr (HM2.out.tr hm8)
       have hle := look_le nf args HF2.out.2.1 (has) ((false, nx'))
       have h3 := HWW.out
       have h4 := HF2.out.1.2.2.1
       go_wp2_with fail
       exact ⟨⟨k + 1, _, _, by simp, by omega, by omega, HE2, Lib.hid hs8, Lib.hid HF2.out.2.2, Lib.hid (by omega), Lib.hid hM8⟩, by simp only [intOf]; omega⟩
      | true =>
        by_cases hs : sl < hl
        · have hd2 : decide ((sl : Int) < (hl : Int)) = true := decide_eq_true (by omega)
          have hsi : (sl : Int) < (hl : Int) := by omega
          have hRd := HHW.out
          obtain ⟨a', cap', e, -, -, -, hcl⟩ := hRd
          simp only [Value.slice.injEq] at e
          obtain ⟨rfl, -, rfl⟩ := e
          obtain ⟨hbk, hof, rfl, -, -, hcl⟩ := hcl (by have := HHL.out; omega)
          have hget : has[sl]? = some bb := by
           have hlt : sl < has.length := by have := HHL.out; omega
           rw [List.getElem?_eq_getElem hlt, ← hbb, List.getD_eq_getElem?_getD, List.getElem?_eq_getElem hlt]; rfl
          have hb0 := hcl sl bb hget
          unfold boolV at hb0
          clear hcl hget hbb
          cases bb with
          | false =>
           obtain rfl : gg = false := by rw [← HGG.out]; simp [*]
           go_upto_region 19 with fail
           obtain ⟨wc, hcut⟩ : ∃ W, W1.setCell ⟨kg, 0, none⟩ (.bool false) = W := ⟨_, rfl⟩
           try rw [hcut]
           clear x3 b0 bf
           have HS2 := Lib.hid (show Sl kg kc kw kn kl args fa nf fc false nx' wc from hcut ▸ HS1.out.setg false)
           have HM2 := Lib.hid (show Mv2 kn (some kg) W1 wc from hcut ▸ mv_setg _)
           have HXB := Lib.hid (show Blk IT kx #[.int .i64 x.kind, .string ⟨x.name.toArray⟩, .int .i64 x.num, .int .i64 (sl : Int), .int .i64 x.width, .slice ya x.kids.length yc] wc from hcut ▸ HX1.out.far (p := ⟨kg, 0, none⟩) HKX.out.1 _)
           have hE2 := HE1.out
           rw [HLS.out, HIN.out] at hE2
           have HE2 := Lib.hid hE2
           have hnx2 : (0 : Int) ≤ nx' := hn'
           have hlen2 : has.length ≤ 1000000 := by have := HHL.out; omega
           clear hE2 hcut
           have HC := Lib.hid (HIH.out x (List.mem_of_getElem? HX.out) kg kc kw kn kl args fa nf fc ((false, nx')).1 ((false, nx')).2 (.slice ya x.kids.length yc) (.slice (some ⟨hbk, hof, none⟩) hl hc) has wc HS2.out (HKD.out.kp (mvx HM2.out)) (HHW.out.kp (mvx HM2.out)) HF2.out.2.1 hnx2 (by have h1 := HF2.out.1.2.2.1; have h2 := wsum_nn HF2.out.2.2; have h3 := HWW.out; omega) hlen2)
           have cl := HS2.out.cl
           have x5 := (HXB.out).c 5 _ rfl
           go_wp2_with fail
           refine HC.out.mono ?_; rintro e w8 ⟨rfl, hs8, hm8⟩
           have hM8 := (HMV.out.tr HM1.out).tr (HM2.out.tr hm8)
           have hle := look_le nf args HF2.out.2.1 (has) ((false, nx'))
           have h3 := HWW.out
           have h4 := HF2.out.1.2.2.1
           go_wp2_with fail
           exact ⟨⟨k + 1, _, _, by simp, by omega, by omega, HE2, Lib.hid hs8, Lib.hid HF2.out.2.2, Lib.hid (by omega), Lib.hid hM8⟩, by simp only [intOf]; omega⟩
          | true =>
           obtain rfl : gg = true := by rw [← HGG.out]; simp [*]
           go_upto_region 19 with fail
           obtain ⟨wc, hcut⟩ : ∃ W, W1.setCell ⟨kg, 0, none⟩ (.bool true) = W := ⟨_, rfl⟩
           try rw [hcut]
           clear x3 b0 bf
           have HS2 := Lib.hid (show Sl kg kc kw kn kl args fa nf fc true nx' wc from hcut ▸ HS1.out.setg true)
           have HM2 := Lib.hid (show Mv2 kn (some kg) W1 wc from hcut ▸ mv_setg _)
           have HXB := Lib.hid (show Blk IT kx #[.int .i64 x.kind, .string ⟨x.name.toArray⟩, .int .i64 x.num, .int .i64 (sl : Int), .int .i64 x.width, .slice ya x.kids.length yc] wc from hcut ▸ HX1.out.far (p := ⟨kg, 0, none⟩) HKX.out.1 _)
           have hE2 := HE1.out
           rw [HLS.out, HIN.out] at hE2
           have HE2 := Lib.hid hE2
           have hnx2 : (0 : Int) ≤ nx' := hn'
           have hlen2 : has.length ≤ 1000000 := by have := HHL.out; omega
           clear hE2 hcut
           have HC := Lib.hid (HIH.out x (List.mem_of_getElem? HX.out) kg kc kw kn kl args fa nf fc ((true, nx')).1 ((true, nx')).2 (.slice ya x.kids.length yc) (.slice (some ⟨hbk, hof, none⟩) hl hc) has wc HS2.out (HKD.out.kp (mvx HM2.out)) (HHW.out.kp (mvx HM2.out)) HF2.out.2.1 hnx2 (by have h1 := HF2.out.1.2.2.1; have h2 := wsum_nn HF2.out.2.2; have h3 := HWW.out; omega) hlen2)
           have cl := HS2.out.cl
           have x5 := (HXB.out).c 5 _ rfl
           go_wp2_with fail
           refine HC.out.mono ?_; rintro e w8 ⟨rfl, hs8, hm8⟩
           have hM8 := (HMV.out.tr HM1.out).tr (HM2.out.tr hm8)
           have hle := look_le nf args HF2.out.2.1 (has) ((true, nx'))
           have h3 := HWW.out
           have h4 := HF2.out.1.2.2.1
           go_wp2_with fail
           exact ⟨⟨k + 1, _, _, by simp, by omega, by omega, HE2, Lib.hid hs8, Lib.hid HF2.out.2.2, Lib.hid (by omega), Lib.hid hM8⟩, by simp only [intOf]; omega⟩
        · have hd2 : decide ((sl : Int) < (hl : Int)) = false := decide_eq_false (by omega)
          obtain rfl : gg = false := by rw [← HGG.out]; simp [*]
          go_upto_region 19 with fail
          obtain ⟨wc, hcut⟩ : ∃ W, W1.setCell ⟨kg, 0, none⟩ (.bool false) = W := ⟨_, rfl⟩
          try rw [hcut]
          clear x3 b0 bf
          have HS2 := Lib.hid (show Sl kg kc kw kn kl args fa nf fc false nx' wc from hcut ▸ HS1.out.setg false)
          have HM2 := Lib.hid (show Mv2 kn (some kg) W1 wc from hcut ▸ mv_setg _)
          have HXB := Lib.hid (show Blk IT kx #[.int .i64 x.kind, .string ⟨x.name.toArray⟩, .int .i64 x.num, .int .i64 (sl : Int), .int .i64 x.width, .slice ya x.kids.length yc] wc from hcut ▸ HX1.out.far (p := ⟨kg, 0, none⟩) HKX.out.1 _)
          have hE2 := HE1.out
          rw [HLS.out, HIN.out] at hE2
          have HE2 := Lib.hid hE2
          have hnx2 : (0 : Int) ≤ nx' := hn'
          have hlen2 : has.length ≤ 1000000 := by have := HHL.out; omega
          clear hE2 hcut
          have HC := Lib.hid (HIH.out x (List.mem_of_getElem? HX.out) kg kc kw kn kl args fa nf fc ((false, nx')).1 ((false, nx')).2 (.slice ya x.kids.length yc) (.slice ha hl hc) has wc HS2.out (HKD.out.kp (mvx HM2.out)) (HHW.out.kp (mvx HM2.out)) HF2.out.2.1 hnx2 (by have h1 := HF2.out.1.2.2.1; have h2 := wsum_nn HF2.out.2.2; have h3 := HWW.out; omega) hlen2)
          have cl := HS2.out.cl
          have x5 := (HXB.out).c 5 _ rfl
          go_wp2_with fail
          refine HC.out.mono ?_; rintro e w8 ⟨rfl, hs8, hm8⟩
          have hM8 := (HMV.out.tr HM1.out).tr (HM2.out.tr hm8)
          have hle := look_le nf args HF2.out.2.1 (has) ((false, nx'))
          have h3 := HWW.out
          have h4 := HF2.out.1.2.2.1
          go_wp2_with fail
          exact ⟨⟨k + 1, _, _, by simp, by omega, by omega, HE2, Lib.hid hs8, Lib.hid HF2.out.2.2, Lib.hid (by omega), Lib.hid hM8⟩, by simp only [intOf]; omega⟩
    by_cases hx12 : x.kind = 12
    · have hxk := hx12
      have e10 : (x.kind == 10) = false := by rw [hxk]; rfl
      have e12 : (x.kind == 12) = true := by rw [hxk]; rfl
      have e11 : (x.kind == 11) = false := by rw [hxk]; rfl
      have e13 : (x.kind == 13) = false := by rw [hxk]; rfl
      have e17 : (x.kind == 17) = false := by rw [hxk]; rfl
      obtain ⟨bb, hbb⟩ : ∃ z, has.getD sl false = z := ⟨_, rfl⟩
      obtain ⟨gg, hgg⟩ : ∃ z, (g' && (decide ((0 : Int) ≤ (sl : Int)) && decide ((sl : Int) < (hl : Int)) && bb && (false || decide (args ≤ (sl : Int))))) = z := ⟨_, rfl⟩
      have hls : lookS nf args x has (g', nx') = (gg, nx') := by
       unfold lookS
       rw [if_pos (by omega), HSL.out, HHL.out, e10, Int.toNat_natCast, hbb]
       show (g' && _, nx') = _
       rw [hgg]
      have hin : innerS x has = has := by unfold innerS; rw [if_neg (by omega)]
      have x3 := HX1.out.c 3 _ rfl
      have b0 := HS1.out.bg.c 0 _ rfl
      have bf := HS1.out.bg.fz
      have ca := HS1.out.ca
      have x0 := HX1.out.c 0 _ rfl
      have hz : (0 : Int) ≤ (sl : Int) := by omega
      go_upto_region 7 with fail
      have HGG := Lib.hid hgg
      have HLS := Lib.hid hls
      have HIN := Lib.hid hin
      clear hgg hls hin
      cases g' with
      | false =>
       obtain rfl : gg = false := by rw [← HGG.out]; simp [*]
       go_upto_region 19 with fail
       obtain ⟨wc, hcut⟩ : ∃ W, W1.setCell ⟨kg, 0, none⟩ (.bool false) = W := ⟨_, rfl⟩
       try rw [hcut]
       clear x3 b0 bf
       have HS2 := Lib.hid (show Sl kg kc kw kn kl args fa nf fc false nx' wc from hcut ▸ HS1.out.setg false)
       have HM2 := Lib.hid (show Mv2 kn (some kg) W1 wc from hcut ▸ mv_setg _)
       have HXB := Lib.hid (show Blk IT kx #[.int .i64 x.kind, .string ⟨x.name.toArray⟩, .int .i64 x.num, .int .i64 (sl : Int), .int .i64 x.width, .slice ya x.kids.length yc] wc from hcut ▸ HX1.out.far (p := ⟨kg, 0, none⟩) HKX.out.1 _)
       have hE2 := HE1.out
       rw [HLS.out, HIN.out] at hE2
       have HE2 := Lib.hid hE2
       have hnx2 : (0 : Int) ≤ nx' := hn'
       have hlen2 : has.length ≤ 1000000 := by have := HHL.out; omega
       clear hE2 hcut
       have HC := Lib.hid (HIH.out x (List.mem_of_getElem? HX.out) kg kc kw kn kl args fa nf fc ((false, nx')).1 ((false, nx')).2 (.slice ya x.kids.length yc) (.slice ha hl hc) has wc HS2.out (HKD.out.kp (mvx HM2.out)) (HHW.out.kp (mvx HM2.out)) HF2.out.2.1 hnx2 (by have h1 := HF2.out.1.2.2.1; have h2 := wsum_nn HF2.out.2.2; have h3 := HWW.out; omega) hlen2)
       have cl := HS2.out.cl
       have x5 := (HXB.out).c 5 _ rfl
       go_wp2_with fail
       refine HC.out.mono ?_; rintro e w8 ⟨rfl, hs8, hm8⟩
       have hM8 := (HMV.out.tr HM1.out).tr (HM2.out.tr hm8)
       have hle := look_le nf args HF2.out.2.1 (has) ((false, nx'))
       have h3 := HWW.out
       have h4 := HF2.out.1.2.2.1
       go_wp2_with fail
       exact ⟨⟨k + 1, _, _, by simp, by omega, by omega, HE2, Lib.hid hs8, Lib.hid HF2.out.2.2, Lib.hid (by omega), Lib.hid hM8⟩, by simp only [intOf]; omega⟩
      | true =>
        by_cases hs : sl < hl
        · have hd2 : decide ((sl : Int) < (hl : Int)) = true := decide_eq_true (by omega)
          have hsi : (sl : Int) < (hl : Int) := by omega
          have hRd := HHW.out
          obtain ⟨a', cap', e, -, -, -, hcl⟩ := hRd
          simp only [Value.slice.injEq] at e
          obtain ⟨rfl, -, rfl⟩ := e
          obtain ⟨hbk, hof, rfl, -, -, hcl⟩ := hcl (by have := HHL.out; omega)
          have hget : has[sl]? = some bb := by
           have hlt : sl < has.length := by have := HHL.out; omega
           rw [List.getElem?_eq_getElem hlt, ← hbb, List.getD_eq_getElem?_getD, List.getElem?_eq_getElem hlt]; rfl
          have hb0 := hcl sl bb hget
          unfold boolV at hb0
          clear hcl hget hbb
          cases bb with
          | false =>
           obtain rfl : gg = false := by rw [← HGG.out]; simp [*]
           go_upto_region 19 with fail
           obtain ⟨wc, hcut⟩ : ∃ W, W1.setCell ⟨kg, 0, none⟩ (.bool false) = W := ⟨_, rfl⟩
           try rw [hcut]
           clear x3 b0 bf
           have HS2 := Lib.hid (show Sl kg kc kw kn kl args fa nf fc false nx' wc from hcut ▸ HS1.out.setg false)
           have HM2 := Lib.hid (show Mv2 kn (some kg) W1 wc from hcut ▸ mv_setg _)
           have HXB := Lib.hid (show Blk IT kx #[.int .i64 x.kind, .string ⟨x.name.toArray⟩, .int .i64 x.num, .int .i64 (sl : Int), .int .i64 x.width, .slice ya x.kids.length yc] wc from hcut ▸ HX1.out.far (p := ⟨kg, 0, none⟩) HKX.out.1 _)
           have hE2 := HE1.out
           rw [HLS.out, HIN.out] at hE2
           have HE2 := Lib.hid hE2
           have hnx2 : (0 : Int) ≤ nx' := hn'
           have hlen2 : has.length ≤ 1000000 := by have := HHL.out; omega
           clear hE2 hcut
           have HC := Lib.hid (HIH.out x (List.mem_of_getElem? HX.out) kg kc kw kn kl args fa nf fc ((false, nx')).1 ((false, nx')).2 (.slice ya x.kids.length yc) (.slice (some ⟨hbk, hof, none⟩) hl hc) has wc HS2.out (HKD.out.kp (mvx HM2.out)) (HHW.out.kp (mvx HM2.out)) HF2.out.2.1 hnx2 (by have h1 := HF2.out.1.2.2.1; have h2 := wsum_nn HF2.out.2.2; have h3 := HWW.out; omega) hlen2)
           have cl := HS2.out.cl
           have x5 := (HXB.out).c 5 _ rfl
           go_wp2_with fail
           refine HC.out.mono ?_; rintro e w8 ⟨rfl, hs8, hm8⟩
           have hM8 := (HMV.out.tr HM1.out).tr (HM2.out.tr hm8)
           have hle := look_le nf args HF2.out.2.1 (has) ((false, nx'))
           have h3 := HWW.out
           have h4 := HF2.out.1.2.2.1
           go_wp2_with fail
           exact ⟨⟨k + 1, _, _, by simp, by omega, by omega, HE2, Lib.hid hs8, Lib.hid HF2.out.2.2, Lib.hid (by omega), Lib.hid hM8⟩, by simp only [intOf]; omega⟩
          | true =>
           by_cases ha2 : args ≤ (sl : Int)
           · have hd3 : decide (args ≤ (sl : Int)) = true := decide_eq_true ha2
             obtain rfl : gg = true := by rw [← HGG.out]; simp [*]
             go_upto_region 19 with fail
             obtain ⟨wc, hcut⟩ : ∃ W, W1.setCell ⟨kg, 0, none⟩ (.bool true) = W := ⟨_, rfl⟩
             try rw [hcut]
             clear x3 b0 bf
             have HS2 := Lib.hid (show Sl kg kc kw kn kl args fa nf fc true nx' wc from hcut ▸ HS1.out.setg true)
             have HM2 := Lib.hid (show Mv2 kn (some kg) W1 wc from hcut ▸ mv_setg _)
             have HXB := Lib.hid (show Blk IT kx #[.int .i64 x.kind, .string ⟨x.name.toArray⟩, .int .i64 x.num, .int .i64 (sl : Int), .int .i64 x.width, .slice ya x.kids.length yc] wc from hcut ▸ HX1.out.far (p := ⟨kg, 0, none⟩) HKX.out.1 _)
             have hE2 := HE1.out
             rw [HLS.out, HIN.out] at hE2
             have HE2 := Lib.hid hE2
             have hnx2 : (0 : Int) ≤ nx' := hn'
             have hlen2 : has.length ≤ 1000000 := by have := HHL.out; omega
             clear hE2 hcut
             have HC := Lib.hid (HIH.out x (List.mem_of_getElem? HX.out) kg kc kw kn kl args fa nf fc ((true, nx')).1 ((true, nx')).2 (.slice ya x.kids.length yc) (.slice (some ⟨hbk, hof, none⟩) hl hc) has wc HS2.out (HKD.out.kp (mvx HM2.out)) (HHW.out.kp (mvx HM2.out)) HF2.out.2.1 hnx2 (by have h1 := HF2.out.1.2.2.1; have h2 := wsum_nn HF2.out.2.2; have h3 := HWW.out; omega) hlen2)
             have cl := HS2.out.cl
             have x5 := (HXB.out).c 5 _ rfl
             go_wp2_with fail
             refine HC.out.mono ?_; rintro e w8 ⟨rfl, hs8, hm8⟩
             have hM8 := (HMV.out.tr HM1.out).tr (HM2.out.tr hm8)
             have hle := look_le nf args HF2.out.2.1 (has) ((true, nx'))
             have h3 := HWW.out
             have h4 := HF2.out.1.2.2.1
             go_wp2_with fail
             exact ⟨⟨k + 1, _, _, by simp, by omega, by omega, HE2, Lib.hid hs8, Lib.hid HF2.out.2.2, Lib.hid (by omega), Lib.hid hM8⟩, by simp only [intOf]; omega⟩
           · have hd3 : decide (args ≤ (sl : Int)) = false := decide_eq_false ha2
             obtain rfl : gg = false := by rw [← HGG.out]; simp [*]
             go_upto_region 19 with fail
             obtain ⟨wc, hcut⟩ : ∃ W, W1.setCell ⟨kg, 0, none⟩ (.bool false) = W := ⟨_, rfl⟩
             try rw [hcut]
             clear x3 b0 bf
             have HS2 := Lib.hid (show Sl kg kc kw kn kl args fa nf fc false nx' wc from hcut ▸ HS1.out.setg false)
             have HM2 := Lib.hid (show Mv2 kn (some kg) W1 wc from hcut ▸ mv_setg _)
             have HXB := Lib.hid (show Blk IT kx #[.int .i64 x.kind, .string ⟨x.name.toArray⟩, .int .i64 x.num, .int .i64 (sl : Int), .int .i64 x.width, .slice ya x.kids.length yc] wc from hcut ▸ HX1.out.far (p := ⟨kg, 0, none⟩) HKX.out.1 _)
             have hE2 := HE1.out
             rw [HLS.out, HIN.out] at hE2
             have HE2 := Lib.hid hE2
             have hnx2 : (0 : Int) ≤ nx' := hn'
             have hlen2 : has.length ≤ 1000000 := by have := HHL.out; omega
             clear hE2 hcut
             have HC := Lib.hid (HIH.out x (List.mem_of_getElem? HX.out) kg kc kw kn kl args fa nf fc ((false, nx')).1 ((false, nx')).2 (.slice ya x.kids.length yc) (.slice (some ⟨hbk, hof, none⟩) hl hc) has wc HS2.out (HKD.out.kp (mvx HM2.out)) (HHW.out.kp (mvx HM2.out)) HF2.out.2.1 hnx2 (by have h1 := HF2.out.1.2.2.1; have h2 := wsum_nn HF2.out.2.2; have h3 := HWW.out; omega) hlen2)
             have cl := HS2.out.cl
             have x5 := (HXB.out).c 5 _ rfl
             go_wp2_with fail
             refine HC.out.mono ?_; rintro e w8 ⟨rfl, hs8, hm8⟩
             have hM8 := (HMV.out.tr HM1.out).tr (HM2.out.tr hm8)
             have hle := look_le nf args HF2.out.2.1 (has) ((false, nx'))
             have h3 := HWW.out
             have h4 := HF2.out.1.2.2.1
             go_wp2_with fail
             exact ⟨⟨k + 1, _, _, by simp, by omega, by omega, HE2, Lib.hid hs8, Lib.hid HF2.out.2.2, Lib.hid (by omega), Lib.hid hM8⟩, by simp only [intOf]; omega⟩
        · have hd2 : decide ((sl : Int) < (hl : Int)) = false := decide_eq_false (by omega)
          obtain rfl : gg = false := by rw [← HGG.out]; simp [*]
          go_upto_region 19 with fail
          obtain ⟨wc, hcut⟩ : ∃ W, W1.setCell ⟨kg, 0, none⟩ (.bool false) = W := ⟨_, rfl⟩
          try rw [hcut]
          clear x3 b0 bf
          have HS2 := Lib.hid (show Sl kg kc kw kn kl args fa nf fc false nx' wc from hcut ▸ HS1.out.setg false)
          have HM2 := Lib.hid (show Mv2 kn (some kg) W1 wc from hcut ▸ mv_setg _)
          have HXB := Lib.hid (show Blk IT kx #[.int .i64 x.kind, .string ⟨x.name.toArray⟩, .int .i64 x.num, .int .i64 (sl : Int), .int .i64 x.width, .slice ya x.kids.length yc] wc from hcut ▸ HX1.out.far (p := ⟨kg, 0, none⟩) HKX.out.1 _)
          have hE2 := HE1.out
          rw [HLS.out, HIN.out] at hE2
          have HE2 := Lib.hid hE2
          have hnx2 : (0 : Int) ≤ nx' := hn'
          have hlen2 : has.length ≤ 1000000 := by have := HHL.out; omega
          clear hE2 hcut
          have HC := Lib.hid (HIH.out x (List.mem_of_getElem? HX.out) kg kc kw kn kl args fa nf fc ((false, nx')).1 ((false, nx')).2 (.slice ya x.kids.length yc) (.slice ha hl hc) has wc HS2.out (HKD.out.kp (mvx HM2.out)) (HHW.out.kp (mvx HM2.out)) HF2.out.2.1 hnx2 (by have h1 := HF2.out.1.2.2.1; have h2 := wsum_nn HF2.out.2.2; have h3 := HWW.out; omega) hlen2)
          have cl := HS2.out.cl
          have x5 := (HXB.out).c 5 _ rfl
          go_wp2_with fail
          refine HC.out.mono ?_; rintro e w8 ⟨rfl, hs8, hm8⟩
          have hM8 := (HMV.out.tr HM1.out).tr (HM2.out.tr hm8)
          have hle := look_le nf args HF2.out.2.1 (has) ((false, nx'))
          have h3 := HWW.out
          have h4 := HF2.out.1.2.2.1
          go_wp2_with fail
          exact ⟨⟨k + 1, _, _, by simp, by omega, by omega, HE2, Lib.hid hs8, Lib.hid HF2.out.2.2, Lib.hid (by omega), Lib.hid hM8⟩, by simp only [intOf]; omega⟩
    by_cases hx11 : x.kind = 11
    · have hxk := hx11
      have e10 : (x.kind == 10) = false := by rw [hxk]; rfl
      have e12 : (x.kind == 12) = false := by rw [hxk]; rfl
      have e11 : (x.kind == 11) = true := by rw [hxk]; rfl
      have e13 : (x.kind == 13) = false := by rw [hxk]; rfl
      have e17 : (x.kind == 17) = false := by rw [hxk]; rfl
      obtain ⟨gg, hgg⟩ : ∃ z, (g' && (decide ((0 : Int) ≤ (sl : Int)) && decide ((sl : Int) < (nf : Int)))) = z := ⟨_, rfl⟩
      have hls : lookS nf args x has (g', nx') = (gg, nx') := by
       unfold lookS
       rw [if_neg (by omega), if_pos (by omega), HSL.out]
       show (g' && _, nx') = _
       rw [hgg]
      have hin : innerS x has = has := by unfold innerS; rw [if_neg (by omega)]
      have x3 := HX1.out.c 3 _ rfl
      have b0 := HS1.out.bg.c 0 _ rfl
      have bf := HS1.out.bg.fz
      have cw := HS1.out.cw
      have hz : (0 : Int) ≤ (sl : Int) := by omega
      go_upto_region 10 with fail
      have HGG := Lib.hid hgg
      have HLS := Lib.hid hls
      have HIN := Lib.hid hin
      clear hgg hls hin
      cases g' with
      | false =>
       obtain rfl : gg = false := by rw [← HGG.out]; simp [*]
       go_upto_region 19 with fail
       obtain ⟨wc, hcut⟩ : ∃ W, W1.setCell ⟨kg, 0, none⟩ (.bool false) = W := ⟨_, rfl⟩
       try rw [hcut]
       clear x3 b0 bf
       have HS2 := Lib.hid (show Sl kg kc kw kn kl args fa nf fc false nx' wc from hcut ▸ HS1.out.setg false)
       have HM2 := Lib.hid (show Mv2 kn (some kg) W1 wc from hcut ▸ mv_setg _)
       have HXB := Lib.hid (show Blk IT kx #[.int .i64 x.kind, .string ⟨x.name.toArray⟩, .int .i64 x.num, .int .i64 (sl : Int), .int .i64 x.width, .slice ya x.kids.length yc] wc from hcut ▸ HX1.out.far (p := ⟨kg, 0, none⟩) HKX.out.1 _)
       have hE2 := HE1.out
       rw [HLS.out, HIN.out] at hE2
       have HE2 := Lib.hid hE2
       have hnx2 : (0 : Int) ≤ nx' := hn'
       have hlen2 : has.length ≤ 1000000 := by have := HHL.out; omega
       clear hE2 hcut
       have HC := Lib.hid (HIH.out x (List.mem_of_getElem? HX.out) kg kc kw kn kl args fa nf fc ((false, nx')).1 ((false, nx')).2 (.slice ya x.kids.length yc) (.slice ha hl hc) has wc HS2.out (HKD.out.kp (mvx HM2.out)) (HHW.out.kp (mvx HM2.out)) HF2.out.2.1 hnx2 (by have h1 := HF2.out.1.2.2.1; have h2 := wsum_nn HF2.out.2.2; have h3 := HWW.out; omega) hlen2)
       have cl := HS2.out.cl
       have x5 := (HXB.out).c 5 _ rfl
       go_wp2_with fail
       refine HC.out.mono ?_; rintro e w8 ⟨rfl, hs8, hm8⟩
       have hM8 := (HMV.out.tr HM1.out).tr (HM2.out.tr hm8)
       have hle := look_le nf args HF2.out.2.1 (has) ((false, nx'))
       have h3 := HWW.out
       have h4 := HF2.out.1.2.2.1
       go_wp2_with fail
       exact ⟨⟨k + 1, _, _, by simp, by omega, by omega, HE2, Lib.hid hs8, Lib.hid HF2.out.2.2, Lib.hid (by omega), Lib.hid hM8⟩, by simp only [intOf]; omega⟩
      | true =>
        by_cases hs : sl < nf
        · have hd2 : decide ((sl : Int) < (nf : Int)) = true := decide_eq_true (by omega)
          obtain rfl : gg = true := by rw [← HGG.out]; simp [*]
          go_upto_region 19 with fail
          obtain ⟨wc, hcut⟩ : ∃ W, W1.setCell ⟨kg, 0, none⟩ (.bool true) = W := ⟨_, rfl⟩
          try rw [hcut]
          clear x3 b0 bf
          have HS2 := Lib.hid (show Sl kg kc kw kn kl args fa nf fc true nx' wc from hcut ▸ HS1.out.setg true)
          have HM2 := Lib.hid (show Mv2 kn (some kg) W1 wc from hcut ▸ mv_setg _)
          have HXB := Lib.hid (show Blk IT kx #[.int .i64 x.kind, .string ⟨x.name.toArray⟩, .int .i64 x.num, .int .i64 (sl : Int), .int .i64 x.width, .slice ya x.kids.length yc] wc from hcut ▸ HX1.out.far (p := ⟨kg, 0, none⟩) HKX.out.1 _)
          have hE2 := HE1.out
          rw [HLS.out, HIN.out] at hE2
          have HE2 := Lib.hid hE2
          have hnx2 : (0 : Int) ≤ nx' := hn'
          have hlen2 : has.length ≤ 1000000 := by have := HHL.out; omega
          clear hE2 hcut
          have HC := Lib.hid (HIH.out x (List.mem_of_getElem? HX.out) kg kc kw kn kl args fa nf fc ((true, nx')).1 ((true, nx')).2 (.slice ya x.kids.length yc) (.slice ha hl hc) has wc HS2.out (HKD.out.kp (mvx HM2.out)) (HHW.out.kp (mvx HM2.out)) HF2.out.2.1 hnx2 (by have h1 := HF2.out.1.2.2.1; have h2 := wsum_nn HF2.out.2.2; have h3 := HWW.out; omega) hlen2)
          have cl := HS2.out.cl
          have x5 := (HXB.out).c 5 _ rfl
          go_wp2_with fail
          refine HC.out.mono ?_; rintro e w8 ⟨rfl, hs8, hm8⟩
          have hM8 := (HMV.out.tr HM1.out).tr (HM2.out.tr hm8)
          have hle := look_le nf args HF2.out.2.1 (has) ((true, nx'))
          have h3 := HWW.out
          have h4 := HF2.out.1.2.2.1
          go_wp2_with fail
          exact ⟨⟨k + 1, _, _, by simp, by omega, by omega, HE2, Lib.hid hs8, Lib.hid HF2.out.2.2, Lib.hid (by omega), Lib.hid hM8⟩, by simp only [intOf]; omega⟩
        · have hd2 : decide ((sl : Int) < (nf : Int)) = false := decide_eq_false (by omega)
          obtain rfl : gg = false := by rw [← HGG.out]; simp [*]
          go_upto_region 19 with fail
          obtain ⟨wc, hcut⟩ : ∃ W, W1.setCell ⟨kg, 0, none⟩ (.bool false) = W := ⟨_, rfl⟩
          try rw [hcut]
          clear x3 b0 bf
          have HS2 := Lib.hid (show Sl kg kc kw kn kl args fa nf fc false nx' wc from hcut ▸ HS1.out.setg false)
          have HM2 := Lib.hid (show Mv2 kn (some kg) W1 wc from hcut ▸ mv_setg _)
          have HXB := Lib.hid (show Blk IT kx #[.int .i64 x.kind, .string ⟨x.name.toArray⟩, .int .i64 x.num, .int .i64 (sl : Int), .int .i64 x.width, .slice ya x.kids.length yc] wc from hcut ▸ HX1.out.far (p := ⟨kg, 0, none⟩) HKX.out.1 _)
          have hE2 := HE1.out
          rw [HLS.out, HIN.out] at hE2
          have HE2 := Lib.hid hE2
          have hnx2 : (0 : Int) ≤ nx' := hn'
          have hlen2 : has.length ≤ 1000000 := by have := HHL.out; omega
          clear hE2 hcut
          have HC := Lib.hid (HIH.out x (List.mem_of_getElem? HX.out) kg kc kw kn kl args fa nf fc ((false, nx')).1 ((false, nx')).2 (.slice ya x.kids.length yc) (.slice ha hl hc) has wc HS2.out (HKD.out.kp (mvx HM2.out)) (HHW.out.kp (mvx HM2.out)) HF2.out.2.1 hnx2 (by have h1 := HF2.out.1.2.2.1; have h2 := wsum_nn HF2.out.2.2; have h3 := HWW.out; omega) hlen2)
          have cl := HS2.out.cl
          have x5 := (HXB.out).c 5 _ rfl
          go_wp2_with fail
          refine HC.out.mono ?_; rintro e w8 ⟨rfl, hs8, hm8⟩
          have hM8 := (HMV.out.tr HM1.out).tr (HM2.out.tr hm8)
          have hle := look_le nf args HF2.out.2.1 (has) ((false, nx'))
          have h3 := HWW.out
          have h4 := HF2.out.1.2.2.1
          go_wp2_with fail
          exact ⟨⟨k + 1, _, _, by simp, by omega, by omega, HE2, Lib.hid hs8, Lib.hid HF2.out.2.2, Lib.hid (by omega), Lib.hid hM8⟩, by simp only [intOf]; omega⟩
    by_cases hx13 : x.kind = 13
    · have hxk := hx13
      have e10 : (x.kind == 10) = false := by rw [hxk]; rfl
      have e12 : (x.kind == 12) = false := by rw [hxk]; rfl
      have e11 : (x.kind == 11) = false := by rw [hxk]; rfl
      have e13 : (x.kind == 13) = true := by rw [hxk]; rfl
      have e17 : (x.kind == 17) = false := by rw [hxk]; rfl
      obtain ⟨gg, hgg⟩ : ∃ z, (g' && (decide ((0 : Int) ≤ (sl : Int)) && decide ((sl : Int) < (nf : Int)))) = z := ⟨_, rfl⟩
      have hls : lookS nf args x has (g', nx') = (gg, nx') := by
       unfold lookS
       rw [if_neg (by omega), if_pos (by omega), HSL.out]
       show (g' && _, nx') = _
       rw [hgg]
      have hin : innerS x has = has := by unfold innerS; rw [if_neg (by omega)]
      have x3 := HX1.out.c 3 _ rfl
      have b0 := HS1.out.bg.c 0 _ rfl
      have bf := HS1.out.bg.fz
      have cw := HS1.out.cw
      have hz : (0 : Int) ≤ (sl : Int) := by omega
      go_upto_region 10 with fail
      have HGG := Lib.hid hgg
      have HLS := Lib.hid hls
      have HIN := Lib.hid hin
      clear hgg hls hin
      cases g' with
      | false =>
       obtain rfl : gg = false := by rw [← HGG.out]; simp [*]
       go_upto_region 19 with fail
       obtain ⟨wc, hcut⟩ : ∃ W, W1.setCell ⟨kg, 0, none⟩ (.bool false) = W := ⟨_, rfl⟩
       try rw [hcut]
       clear x3 b0 bf
       have HS2 := Lib.hid (show Sl kg kc kw kn kl args fa nf fc false nx' wc from hcut ▸ HS1.out.setg false)
       have HM2 := Lib.hid (show Mv2 kn (some kg) W1 wc from hcut ▸ mv_setg _)
       have HXB := Lib.hid (show Blk IT kx #[.int .i64 x.kind, .string ⟨x.name.toArray⟩, .int .i64 x.num, .int .i64 (sl : Int), .int .i64 x.width, .slice ya x.kids.length yc] wc from hcut ▸ HX1.out.far (p := ⟨kg, 0, none⟩) HKX.out.1 _)
       have hE2 := HE1.out
       rw [HLS.out, HIN.out] at hE2
       have HE2 := Lib.hid hE2
       have hnx2 : (0 : Int) ≤ nx' := hn'
       have hlen2 : has.length ≤ 1000000 := by have := HHL.out; omega
       clear hE2 hcut
       have HC := Lib.hid (HIH.out x (List.mem_of_getElem? HX.out) kg kc kw kn kl args fa nf fc ((false, nx')).1 ((false, nx')).2 (.slice ya x.kids.length yc) (.slice ha hl hc) has wc HS2.out (HKD.out.kp (mvx HM2.out)) (HHW.out.kp (mvx HM2.out)) HF2.out.2.1 hnx2 (by have h1 := HF2.out.1.2.2.1; have h2 := wsum_nn HF2.out.2.2; have h3 := HWW.out; omega) hlen2)
       have cl := HS2.out.cl
       have x5 := (HXB.out).c 5 _ rfl
       go_wp2_with fail
       refine HC.out.mono ?_; rintro e w8 ⟨rfl, hs8, hm8⟩
       have hM8 := (HMV.out.tr HM1.out).tr (HM2.out.tr hm8)
       have hle := look_le nf args HF2.out.2.1 (has) ((false, nx'))
       have h3 := HWW.out
       have h4 := HF2.out.1.2.2.1
       go_wp2_with fail
       exact ⟨⟨k + 1, _, _, by simp, by omega, by omega, HE2, Lib.hid hs8, Lib.hid HF2.out.2.2, Lib.hid (by omega), Lib.hid hM8⟩, by simp only [intOf]; omega⟩
      | true =>
        by_cases hs : sl < nf
        · have hd2 : decide ((sl : Int) < (nf : Int)) = true := decide_eq_true (by omega)
          obtain rfl : gg = true := by rw [← HGG.out]; simp [*]
          go_upto_region 19 with fail
          obtain ⟨wc, hcut⟩ : ∃ W, W1.setCell ⟨kg, 0, none⟩ (.bool true) = W := ⟨_, rfl⟩
          try rw [hcut]
          clear x3 b0 bf
          have HS2 := Lib.hid (show Sl kg kc kw kn kl args fa nf fc true nx' wc from hcut ▸ HS1.out.setg true)
          have HM2 := Lib.hid (show Mv2 kn (some kg) W1 wc from hcut ▸ mv_setg _)
          have HXB := Lib.hid (show Blk IT kx #[.int .i64 x.kind, .string ⟨x.name.toArray⟩, .int .i64 x.num, .int .i64 (sl : Int), .int .i64 x.width, .slice ya x.kids.length yc] wc from hcut ▸ HX1.out.far (p := ⟨kg, 0, none⟩) HKX.out.1 _)
          have hE2 := HE1.out
          rw [HLS.out, HIN.out] at hE2
          have HE2 := Lib.hid hE2
          have hnx2 : (0 : Int) ≤ nx' := hn'
          have hlen2 : has.length ≤ 1000000 := by have := HHL.out; omega
          clear hE2 hcut
          have HC := Lib.hid (HIH.out x (List.mem_of_getElem? HX.out) kg kc kw kn kl args fa nf fc ((true, nx')).1 ((true, nx')).2 (.slice ya x.kids.length yc) (.slice ha hl hc) has wc HS2.out (HKD.out.kp (mvx HM2.out)) (HHW.out.kp (mvx HM2.out)) HF2.out.2.1 hnx2 (by have h1 := HF2.out.1.2.2.1; have h2 := wsum_nn HF2.out.2.2; have h3 := HWW.out; omega) hlen2)
          have cl := HS2.out.cl
          have x5 := (HXB.out).c 5 _ rfl
          go_wp2_with fail
          refine HC.out.mono ?_; rintro e w8 ⟨rfl, hs8, hm8⟩
          have hM8 := (HMV.out.tr HM1.out).tr (HM2.out.tr hm8)
          have hle := look_le nf args HF2.out.2.1 (has) ((true, nx'))
          have h3 := HWW.out
          have h4 := HF2.out.1.2.2.1
          go_wp2_with fail
          exact ⟨⟨k + 1, _, _, by simp, by omega, by omega, HE2, Lib.hid hs8, Lib.hid HF2.out.2.2, Lib.hid (by omega), Lib.hid hM8⟩, by simp only [intOf]; omega⟩
        · have hd2 : decide ((sl : Int) < (nf : Int)) = false := decide_eq_false (by omega)
          obtain rfl : gg = false := by rw [← HGG.out]; simp [*]
          go_upto_region 19 with fail
          obtain ⟨wc, hcut⟩ : ∃ W, W1.setCell ⟨kg, 0, none⟩ (.bool false) = W := ⟨_, rfl⟩
          try rw [hcut]
          clear x3 b0 bf
          have HS2 := Lib.hid (show Sl kg kc kw kn kl args fa nf fc false nx' wc from hcut ▸ HS1.out.setg false)
          have HM2 := Lib.hid (show Mv2 kn (some kg) W1 wc from hcut ▸ mv_setg _)
          have HXB := Lib.hid (show Blk IT kx #[.int .i64 x.kind, .string ⟨x.name.toArray⟩, .int .i64 x.num, .int .i64 (sl : Int), .int .i64 x.width, .slice ya x.kids.length yc] wc from hcut ▸ HX1.out.far (p := ⟨kg, 0, none⟩) HKX.out.1 _)
          have hE2 := HE1.out
          rw [HLS.out, HIN.out] at hE2
          have HE2 := Lib.hid hE2
          have hnx2 : (0 : Int) ≤ nx' := hn'
          have hlen2 : has.length ≤ 1000000 := by have := HHL.out; omega
          clear hE2 hcut
          have HC := Lib.hid (HIH.out x (List.mem_of_getElem? HX.out) kg kc kw kn kl args fa nf fc ((false, nx')).1 ((false, nx')).2 (.slice ya x.kids.length yc) (.slice ha hl hc) has wc HS2.out (HKD.out.kp (mvx HM2.out)) (HHW.out.kp (mvx HM2.out)) HF2.out.2.1 hnx2 (by have h1 := HF2.out.1.2.2.1; have h2 := wsum_nn HF2.out.2.2; have h3 := HWW.out; omega) hlen2)
          have cl := HS2.out.cl
          have x5 := (HXB.out).c 5 _ rfl
          go_wp2_with fail
          refine HC.out.mono ?_; rintro e w8 ⟨rfl, hs8, hm8⟩
          have hM8 := (HMV.out.tr HM1.out).tr (HM2.out.tr hm8)
          have hle := look_le nf args HF2.out.2.1 (has) ((false, nx'))
          have h3 := HWW.out
          have h4 := HF2.out.1.2.2.1
          go_wp2_with fail
          exact ⟨⟨k + 1, _, _, by simp, by omega, by omega, HE2, Lib.hid hs8, Lib.hid HF2.out.2.2, Lib.hid (by omega), Lib.hid hM8⟩, by simp only [intOf]; omega⟩
    by_cases hx17 : x.kind = 17
    · have hxk := hx17
      have e10 : (x.kind == 10) = false := by rw [hxk]; rfl
      have e12 : (x.kind == 12) = false := by rw [hxk]; rfl
      have e11 : (x.kind == 11) = false := by rw [hxk]; rfl
      have e13 : (x.kind == 13) = false := by rw [hxk]; rfl
      have e17 : (x.kind == 17) = true := by rw [hxk]; rfl
      obtain ⟨gg, hgg⟩ : ∃ z, (g' && (((sl : Int) == nx') && decide (x.num ≤ x.width))) = z := ⟨_, rfl⟩
      have hls : lookS nf args x has (g', nx') = (gg, nx' + x.width) := by
       unfold lookS
       rw [if_neg (by omega), if_neg (by omega), if_pos (by omega), HSL.out]
       show (g' && _, nx' + x.width) = _
       rw [hgg]
      obtain ⟨dw, hdw⟩ : ∃ d : Nat, x.width = (d : Int) := ⟨x.width.toNat, by omega⟩
      have hin : innerS x has = markL has sl dw := by unfold innerS; rw [if_pos (by omega), HSL.out, hdw, Int.toNat_natCast, Int.toNat_natCast]
      have HGG := Lib.hid hgg
      have HLS := Lib.hid hls
      have HIN := Lib.hid hin
      have HDW := Lib.hid hdw
      clear hgg hls hin hdw
      have x2 := HX1.out.c 2 _ rfl
      have x3 := HX1.out.c 3 _ rfl
      have x4 := HX1.out.c 4 _ rfl
      have b0 := HS1.out.bg.c 0 _ rfl
      have bf := HS1.out.bg.fz
      have bn := HS1.out.bn.c 0 _ rfl
      go_upto_region 12 with fail
      go_cut [76] (fun s76 wx => W1.setCell ⟨kg, 0, none⟩ (.bool gg) = wx)
      case first =>
       cases g' with
       | false =>
        obtain rfl : gg = false := by rw [← HGG.out]; rfl
        go_wp2_with fail
        go_meet
        exact rfl
       | true =>
        cases hq1 : ((sl : Int) == nx') with
        | false =>
         obtain rfl : gg = false := by rw [← HGG.out, hq1]; rfl
         go_wp2_with fail
         go_meet
         exact rfl
        | true =>
         cases hq2 : decide (x.num ≤ x.width) with
         | false =>
          obtain rfl : gg = false := by rw [← HGG.out, hq1, hq2]; rfl
          go_wp2_with fail
          go_meet
          exact rfl
         | true =>
          obtain rfl : gg = true := by rw [← HGG.out, hq1, hq2]; rfl
          go_wp2_with fail
          go_meet
          exact rfl
      case rest =>
      have HS2 := Lib.hid (show Sl kg kc kw kn kl args fa nf fc gg nx' wc from hcut ▸ HS1.out.setg gg)
      have HM2 := Lib.hid (show Mv2 kn (some kg) W1 wc from hcut ▸ mv_setg _)
      have HXB := Lib.hid (show Blk IT kx #[.int .i64 x.kind, .string ⟨x.name.toArray⟩, .int .i64 x.num, .int .i64 (sl : Int), .int .i64 x.width, .slice ya x.kids.length yc] wc from hcut ▸ HX1.out.far (p := ⟨kg, 0, none⟩) HKX.out.1 _)
      clear hcut x2 x3 x4 b0 bf bn
      obtain ⟨iB, hiB, hB0, hB1, hB2⟩ := info_parts (show (Tryz.prog.info? 4).map (fun i => (i.zero, i.size, i.bytes)) = some (some (.bool false), 1, 1) by kernel_rfl)
      have tB : Tryz.prog.underlying 56 = some (.slice 4) := by kernel_rfl
      have hE : (wc.alloc (.cells #[] 4)).ownsRow wc.heap.size 4 1 (.slice (some ⟨wc.heap.size, 0, none⟩) 0 0) 0 [] := World.ownsRow_made (e := 4) (size := 1) wc #[] 0 (Nat.le_refl _) (by unfold maxLen; omega) rfl
      have hX : Below wc.heap.size wc (wc.alloc (.cells #[] 4)) := (Below.refl _ wc).alloc (Nat.le_refl _) _
      have HEE := Lib.hid hE
      have HXX := Lib.hid hX
      have hHW2 := (HHW.out.kp (mvx HM2.out)).below hX
      have HHW2 := Lib.hid hHW2
      clear hE hX hHW2
      go_wp2_with (at_builtin; refine wpList_rd (S := Sx kg kn) (f := boolV) (fun _ => rfl) _ ?hw _ _ 56 4 rfl tB iB (.bool false) 1 hiB hB0 hB1 hB2 rfl HEE.out rfl rfl HHW2.out ?c1 ?c2 ?c3 ?_)
      case c1 => rw [HHL.out]; unfold maxLen; omega
      case c2 => rw [HHL.out]; omega
      case c3 => simp
      intro v6 w6 hown6 hg6 hat6
      have hb6 := HXX.out.grown hg6 HXX.out.size (fun k hk => (HEE.out.lt k hk).1)
      have hsome : ∃ z, v6.ownBlock = some z := by
       rcases hat6 with h | h
       · exact ⟨_, h.trans rfl⟩
       · exact ⟨_, h⟩
      obtain ⟨z6, hz6⟩ := hsome
      rcases hown6.2 with ⟨hv, -⟩ | ⟨gk, cap, cur, rfl, hgB, hgk, hnc, hcm, hcs, htk⟩
      · rw [hv] at hz6; cases hz6
      have hnc : hl ≤ cap := by have := HHL.out; omega
      replace htk : cur.toList.take (hl * 1) = has.map boolV := by
       have h0 := HHL.out
       simpa [h0] using htk
      try simp only [Nat.zero_add]
      try rw [HHL.out]
      have hgx : Sx kg kn gk := ⟨fun e => by have := HS2.out.bg.lt; omega, fun e => by have := HS2.out.bn.lt; omega⟩
      have hcg : Blk 4 gk cur w6 := hgk
      have hcur : ∀ j, j < hl → cur[j]? = some (.bool (has.getD j false || (decide (sl ≤ j) && decide (j < sl + 0)))) := by
       intro j hj
       have hjl : j < has.length := by have := HHL.out; omega
       have h1 : ((cur.toList.take (hl * 1)))[j]? = (has.map boolV)[j]? := by rw [htk]
       rw [List.getElem?_take_of_lt (by omega), List.getElem?_map, List.getElem?_eq_getElem hjl] at h1
       rw [← Array.getElem?_toList, h1]
       have hg : has.getD j false = has[j] := by simp [List.getD_eq_getElem?_getD, List.getElem?_eq_getElem hjl]
       have h2 : (decide (sl ≤ j) && decide (j < sl + 0)) = false := by
        by_cases h : sl ≤ j
        · rw [decide_eq_false (show ¬ j < sl + 0 by omega), Bool.and_false]
        · rw [decide_eq_false h, Bool.false_and]
       rw [hg, h2, Bool.or_false]; rfl
      have hS6 := HS2.out.bel hb6
      have hX6 := HXB.out.below hb6 HXB.out.lt
      have hM6 : Mv2 kn (some kg) W1 w6 := HM2.out.tr (Mv2.of_bel hb6)
      have hszc : wc.heap.size ≤ w6.heap.size := hb6.size
      have hgn : kx < wc.heap.size := HXB.out.lt
      have HS6 := Lib.hid hS6
      have HX6 := Lib.hid hX6
      have HM6 := Lib.hid hM6
      have HCG := Lib.hid hcg
      have HCUR := Lib.hid hcur
      have HCS := Lib.hid hcs
      have HGX := Lib.hid hgx
      clear hown6 hg6 hat6 hz6 hb6 hS6 hX6 hM6 hgk htk hcg hcur hcs hgx HHW2
      go_upto_region 14 with fail
      go_wp2_with fail
      go_loopw [12] (fun y wr => ∃ (i : Nat) (cu : Array Value), y = .int .i64 (i : Int) ∧ i ≤ dw ∧ Hid (cu.size = cur.size) ∧ Hid (Blk 4 gk cu wr) ∧ Hid (∀ j, j < hl → cu[j]? = some (.bool (has.getD j false || (decide (sl ≤ j) && decide (j < sl + i))))) ∧ Hid (Sl kg kc kw kn kl args fa nf fc gg nx' wr) ∧ Hid (Blk IT kx #[.int .i64 x.kind, .string ⟨x.name.toArray⟩, .int .i64 x.num, .int .i64 (sl : Int), .int .i64 x.width, .slice ya x.kids.length yc] wr) ∧ Hid (Mv2 kn (some kg) W1 wr)) (fun y _ => dw - (intOf y).toNat)
      case atStart => exact ⟨0, cur, rfl, by omega, Lib.hid rfl, HCG, HCUR, HS6, HX6, HM6⟩
      case round =>
       obtain ⟨i, cu, rfl, hi, HZ, HCI, HCU, HSI, HXI, HMI⟩ := hrel
       have hdw1 : dw ≤ 1000 := by have := HDW.out; omega
       have c3 := HXI.out.c 3 _ rfl
       have c4 := HXI.out.c 4 _ rfl
       obtain ⟨q, hq⟩ : ∃ q : Nat, sl + i = q := ⟨_, rfl⟩
       have hq2 : (sl : Int) + (i : Int) = (q : Int) := by omega
       by_cases h1 : i < dw
       · have d1 : decide ((i : Int) < x.width) = true := decide_eq_true (by have := HDW.out; omega)
         by_cases h2 : q < hl
         · have d2 : decide ((q : Int) < (hl : Int)) = true := decide_eq_true (by omega)
           have b1 : (0 : Int) ≤ (q : Int) := by omega
           have b2 : (q : Int) < (hl : Int) := by omega
           have g0 := HCI.out.c q _ (HCU.out q h2)
           have gf := HCI.out.fz
           have hqc : q < cu.size := (Array.getElem?_eq_some_iff.1 (HCU.out q h2)).1
           have hC9 := HCI.out.set_ q (.bool true) _ rfl
           have hcu9 : ∀ j, j < hl → (cu.setIfInBounds q (.bool true))[j]? = some (.bool (has.getD j false || (decide (sl ≤ j) && decide (j < sl + (i + 1))))) := by
            intro j hj
            rw [Array.getElem?_setIfInBounds]
            by_cases hjq : q = j
            · rw [if_pos hjq, if_pos hqc, decide_eq_true (show sl ≤ j by omega), decide_eq_true (show j < sl + (i + 1) by omega)]
              simp
            · rw [if_neg hjq, HCU.out j hj]
              have : decide (j < sl + i) = decide (j < sl + (i + 1)) := decide_eq_decide.2 (by omega)
              rw [this]
           have hM9 : Mv2 kn (some kg) W1 (wr.setCell ⟨gk, q, none⟩ (.bool true)) := HMI.out.new (p := ⟨gk, q, none⟩) (show W1.heap.size ≤ gk by have := HM2.out.size; omega) _
           have hMz : Below wc.heap.size wr (wr.setCell ⟨gk, q, none⟩ (.bool true)) := (Below.refl _ wr).setCell (p := ⟨gk, q, none⟩) hgB _
           have hS9 : Sl kg kc kw kn kl args fa nf fc gg nx' (wr.setCell ⟨gk, q, none⟩ (.bool true)) := HSI.out.low hMz HS2.out
           have hX9 := HXI.out.far (p := ⟨gk, q, none⟩) (show kx ≠ gk by omega) (.bool true)
           have HC9 := Lib.hid hC9
           have HCU9 := Lib.hid hcu9
           have HM9 := Lib.hid hM9
           have HS9 := Lib.hid hS9
           have HX9 := Lib.hid hX9
           clear hC9 hcu9 hM9 hMz hS9 hX9
           go_wp2_with fail
           exact ⟨⟨i + 1, _, by simp, by omega, Lib.hid (by rw [Array.size_setIfInBounds]; exact HZ.out), HC9, HCU9, HS9, HX9, HM9⟩, by simp only [intOf]; omega⟩
         · have d2 : decide ((q : Int) < (hl : Int)) = false := decide_eq_false (by omega)
           have hrw : Rd (Sx kg kn) boolV wr (.slice (some ⟨gk, 0, none⟩) hl cap) (innerS x has) := by
            refine ⟨some ⟨gk, 0, none⟩, cap, by rw [HIN.out, markL_len, HHL.out], by rw [HIN.out, markL_len, HHL.out]; exact hnc, hcm, (fun h => by cases h), fun _ => ⟨gk, 0, rfl, HGX.out, HCI.out.lt, fun j z hz => ?_⟩⟩
            rw [HIN.out] at hz
            have hj := (List.getElem?_eq_some_iff.1 hz).1
            rw [markL_len, HHL.out] at hj
            have h1 := markL_get has sl dw j (by rw [HHL.out]; exact hj)
            rw [List.getD_eq_getElem?_getD, hz] at h1
            have h2 : (decide (sl ≤ j) && decide (j < sl + i)) = (decide (sl ≤ j) && decide (j < sl + dw)) := by
             by_cases h : sl ≤ j
             · have : decide (j < sl + i) = decide (j < sl + dw) := decide_eq_decide.2 (by omega)
               rw [this]
             · rw [decide_eq_false h, Bool.false_and, Bool.false_and]
            rw [Nat.zero_add]
            refine HCI.out.c j _ ?_
            rw [HCU.out j hj, h2]
            show some (Value.bool _) = some (Value.bool z)
            rw [show z = _ from h1]
           have hnw : nx' + x.width ≤ 1000000 := by
            have h1 := HWW.out
            have h2 := wsum_nn HF2.out.2.1
            have h3 := wsum_nn HF2.out.2.2
            omega
           have hS9 := HSI.out.setn (nx' + x.width)
           have hM9 : Mv2 kn (some kg) wr (wr.setCell ⟨kn, 0, none⟩ (.int .i64 (nx' + x.width))) := (Mv2.refl _ _ _).set_ 0 _
           have hX9 := HXI.out.far (p := ⟨kn, 0, none⟩) HKX.out.2 (.int .i64 (nx' + x.width))
           have hR9 := hrw.kp (mvx hM9)
           have bn := HSI.out.bn.c 0 _ rfl
           have bf := HSI.out.bn.fz
           have HR9 := Lib.hid hR9
           have HX9 := Lib.hid hX9
           have HS9 := Lib.hid hS9
           have HM9 := Lib.hid (HMI.out.tr hM9)
           clear hrw hS9 hM9 hX9 hR9
           go_upto_region 19 with fail
           obtain ⟨w9, hw9⟩ : ∃ W, wr.setCell ⟨kn, 0, none⟩ (.int .i64 (nx' + x.width)) = W := ⟨_, rfl⟩
           rw [hw9] at HR9 HX9 HS9 HM9
           try rw [hw9]
           clear bn bf c3 c4 hw9 HS2 HM2 HXB
           have HS2 := HS9
           have HM2 := HM9
           have HXB := HX9
           have hE2 := HE1.out
           rw [HLS.out] at hE2
           have HE2 := Lib.hid hE2
           have hnx2 : (0 : Int) ≤ nx' + x.width := by omega
           have hlen2 : (innerS x has).length ≤ 1000000 := by rw [HIN.out, markL_len, HHL.out]; exact hhl
           clear hE2
           have HC := Lib.hid (HIH.out x (List.mem_of_getElem? HX.out) kg kc kw kn kl args fa nf fc ((gg, nx' + x.width)).1 ((gg, nx' + x.width)).2 (.slice ya x.kids.length yc) (.slice (some ⟨gk, 0, none⟩) hl cap) (innerS x has) w9 HS2.out (HKD.out.kp (mvx HM2.out)) HR9.out HF2.out.2.1 hnx2 (by have h1 := HF2.out.1.2.2.1; have h2 := wsum_nn HF2.out.2.2; have h3 := HWW.out; omega) hlen2)
           have cl := HS2.out.cl
           have x5 := (HXB.out).c 5 _ rfl
           go_wp2_with fail
           refine HC.out.mono ?_; rintro e w8 ⟨rfl, hs8, hm8⟩
           have hM8 := (HMV.out.tr HM1.out).tr (HM2.out.tr hm8)
           have hle := look_le nf args HF2.out.2.1 ((innerS x has)) ((gg, nx' + x.width))
           have h3 := HWW.out
           have h4 := HF2.out.1.2.2.1
           go_wp2_with fail
           exact ⟨⟨k + 1, _, _, by simp, by omega, by omega, HE2, Lib.hid hs8, Lib.hid HF2.out.2.2, Lib.hid (by omega), Lib.hid hM8⟩, by simp only [intOf]; omega⟩
       · have d1 : decide ((i : Int) < x.width) = false := decide_eq_false (by have := HDW.out; omega)
         have hrw : Rd (Sx kg kn) boolV wr (.slice (some ⟨gk, 0, none⟩) hl cap) (innerS x has) := by
          refine ⟨some ⟨gk, 0, none⟩, cap, by rw [HIN.out, markL_len, HHL.out], by rw [HIN.out, markL_len, HHL.out]; exact hnc, hcm, (fun h => by cases h), fun _ => ⟨gk, 0, rfl, HGX.out, HCI.out.lt, fun j z hz => ?_⟩⟩
          rw [HIN.out] at hz
          have hj := (List.getElem?_eq_some_iff.1 hz).1
          rw [markL_len, HHL.out] at hj
          have h1 := markL_get has sl dw j (by rw [HHL.out]; exact hj)
          rw [List.getD_eq_getElem?_getD, hz] at h1
          have h2 : (decide (sl ≤ j) && decide (j < sl + i)) = (decide (sl ≤ j) && decide (j < sl + dw)) := by
           by_cases h : sl ≤ j
           · have : decide (j < sl + i) = decide (j < sl + dw) := decide_eq_decide.2 (by omega)
             rw [this]
           · rw [decide_eq_false h, Bool.false_and, Bool.false_and]
          rw [Nat.zero_add]
          refine HCI.out.c j _ ?_
          rw [HCU.out j hj, h2]
          show some (Value.bool _) = some (Value.bool z)
          rw [show z = _ from h1]
         have hnw : nx' + x.width ≤ 1000000 := by
          have h1 := HWW.out
          have h2 := wsum_nn HF2.out.2.1
          have h3 := wsum_nn HF2.out.2.2
          omega
         have hS9 := HSI.out.setn (nx' + x.width)
         have hM9 : Mv2 kn (some kg) wr (wr.setCell ⟨kn, 0, none⟩ (.int .i64 (nx' + x.width))) := (Mv2.refl _ _ _).set_ 0 _
         have hX9 := HXI.out.far (p := ⟨kn, 0, none⟩) HKX.out.2 (.int .i64 (nx' + x.width))
         have hR9 := hrw.kp (mvx hM9)
         have bn := HSI.out.bn.c 0 _ rfl
         have bf := HSI.out.bn.fz
         have HR9 := Lib.hid hR9
         have HX9 := Lib.hid hX9
         have HS9 := Lib.hid hS9
         have HM9 := Lib.hid (HMI.out.tr hM9)
         clear hrw hS9 hM9 hX9 hR9
         go_upto_region 19 with fail
         obtain ⟨w9, hw9⟩ : ∃ W, wr.setCell ⟨kn, 0, none⟩ (.int .i64 (nx' + x.width)) = W := ⟨_, rfl⟩
         rw [hw9] at HR9 HX9 HS9 HM9
         try rw [hw9]
         clear bn bf c3 c4 hw9 HS2 HM2 HXB
         have HS2 := HS9
         have HM2 := HM9
         have HXB := HX9
         have hE2 := HE1.out
         rw [HLS.out] at hE2
         have HE2 := Lib.hid hE2
         have hnx2 : (0 : Int) ≤ nx' + x.width := by omega
         have hlen2 : (innerS x has).length ≤ 1000000 := by rw [HIN.out, markL_len, HHL.out]; exact hhl
         clear hE2
         have HC := Lib.hid (HIH.out x (List.mem_of_getElem? HX.out) kg kc kw kn kl args fa nf fc ((gg, nx' + x.width)).1 ((gg, nx' + x.width)).2 (.slice ya x.kids.length yc) (.slice (some ⟨gk, 0, none⟩) hl cap) (innerS x has) w9 HS2.out (HKD.out.kp (mvx HM2.out)) HR9.out HF2.out.2.1 hnx2 (by have h1 := HF2.out.1.2.2.1; have h2 := wsum_nn HF2.out.2.2; have h3 := HWW.out; omega) hlen2)
         have cl := HS2.out.cl
         have x5 := (HXB.out).c 5 _ rfl
         go_wp2_with fail
         refine HC.out.mono ?_; rintro e w8 ⟨rfl, hs8, hm8⟩
         have hM8 := (HMV.out.tr HM1.out).tr (HM2.out.tr hm8)
         have hle := look_le nf args HF2.out.2.1 ((innerS x has)) ((gg, nx' + x.width))
         have h3 := HWW.out
         have h4 := HF2.out.1.2.2.1
         go_wp2_with fail
         exact ⟨⟨k + 1, _, _, by simp, by omega, by omega, HE2, Lib.hid hs8, Lib.hid HF2.out.2.2, Lib.hid (by omega), Lib.hid hM8⟩, by simp only [intOf]; omega⟩
    have e10 : (x.kind == 10) = false := by rw [beq_eq_false_iff_ne]; assumption
    have e12 : (x.kind == 12) = false := by rw [beq_eq_false_iff_ne]; assumption
    have e11 : (x.kind == 11) = false := by rw [beq_eq_false_iff_ne]; assumption
    have e13 : (x.kind == 13) = false := by rw [beq_eq_false_iff_ne]; assumption
    have e17 : (x.kind == 17) = false := by rw [beq_eq_false_iff_ne]; assumption
    have hls : lookS nf args x has (g', nx') = (g', nx') := by
     unfold lookS
     rw [if_neg (by omega), if_neg (by omega), if_neg (by omega)]
    have hin : innerS x has = has := by unfold innerS; rw [if_neg (by omega)]
    have hE2 := HE1.out
    rw [hls, hin] at hE2
    have HE2 := Lib.hid hE2
    have HS2 := HS1
    have HM2 := Lib.hid (Mv2.refl kn (some kg) W1)
    have HXB := HX1
    have hnx2 : (0 : Int) ≤ nx' := hn'
    have hlen2 : has.length ≤ 1000000 := by have := HHL.out; omega
    clear hE2 hls hin
    have HC := Lib.hid (HIH.out x (List.mem_of_getElem? HX.out) kg kc kw kn kl args fa nf fc ((g', nx')).1 ((g', nx')).2 (.slice ya x.kids.length yc) (.slice ha hl hc) has W1 HS2.out (HKD.out.kp (mvx HM2.out)) (HHW.out) HF2.out.2.1 hnx2 (by have h1 := HF2.out.1.2.2.1; have h2 := wsum_nn HF2.out.2.2; have h3 := HWW.out; omega) hlen2)
    have cl := HS2.out.cl
    have x5 := (HXB.out).c 5 _ rfl
    go_wp2_with fail
    refine HC.out.mono ?_; rintro e w8 ⟨rfl, hs8, hm8⟩
    have hM8 := (HMV.out.tr HM1.out).tr (HM2.out.tr hm8)
    have hle := look_le nf args HF2.out.2.1 (has) ((g', nx'))
    have h3 := HWW.out
    have h4 := HF2.out.1.2.2.1
    go_wp2_with fail
    exact ⟨⟨k + 1, _, _, by simp, by omega, by omega, HE2, Lib.hid hs8, Lib.hid HF2.out.2.2, Lib.hid (by omega), Lib.hid hM8⟩, by simp only [intOf]; omega⟩
  · have hd : decide ((k : Int) < (ll : Int)) = false := decide_eq_false (by omega)
    have hE := HE.out
    rw [List.drop_eq_nil_of_le (by have := HLL.out; omega), lookL_nil] at hE
    subst hE
    go_wp2_with fail
    go_end0
    exact ⟨rfl, HSk.out, HMV.out⟩
end Rv
end Go.Proofs.YtmmgfifpjifjnaaGreatDoor
namespace Go.Proofs.YtmmgfifpjifjnaaGreatDoor
namespace Rv
theorem look_any (l : List It) : LookOk l :=
 look_step l (It.ind (P := fun l => ∀ x ∈ l, LookOk x.kids) (fun x hx => by cases hx) (fun x l h1 h2 y hy => by
  rcases List.mem_cons.1 hy with rfl | hy
  · exact look_step _ h1
  · exact h2 y hy) l)
end Rv
end Go.Proofs.YtmmgfifpjifjnaaGreatDoor
