/- ScriptOptions, the walk, 3: the law. -/
import Derived.Test.YtaaknnmnkgnbjaaDoorScO2
import Derived.Test.YtaaknnmnkgnbjaaDoorScJ
import Derived.Deep.DeepCutAuto
import Derived.Deep.CutBlock
set_option linter.unusedVariables false
namespace Go.Proofs.YtaaknnmnkgnbjaaDoor
open Go.RowKit
namespace Sc
open Bs Sm
theorem InC.below {v : Value} {cs : List Cmd} {w w' : World} (h : InC w v cs) (hb : Below w.heap.size w w') : InC w' v cs := by
  obtain ⟨cl, a, cap, h1, h2, h3, h4, h5, h6⟩ := h
  refine ⟨cl, a, cap, h1, h2, h3, h4, fun hl => ?_, fun x hx => ⟨(h6 x hx).1.below hb, (h6 x hx).2.below hb⟩⟩
  obtain ⟨b, off, k1, k2, k3⟩ := h5 hl
  refine ⟨b, off, k1, Nat.lt_of_lt_of_le k2 hb.size, fun i x hx => ?_⟩
  obtain ⟨c0, c1, c2, c3, c4⟩ := k3 i x hx
  exact ⟨(hb.cell (p := ⟨b, _, none⟩) k2).trans c0, (hb.cell (p := ⟨b, _, none⟩) k2).trans c1, (hb.cell (p := ⟨b, _, none⟩) k2).trans c2, (hb.cell (p := ⟨b, _, none⟩) k2).trans c3, (hb.cell (p := ⟨b, _, none⟩) k2).trans c4⟩
theorem one_flat {w : World} {B : Nat} {ly : List (Cmd × Value × Value)} (hfy : ∀ y ∈ ly, Ints B y.2.1 y.1.list w ∧ Byts B y.2.2 y.1.bytes w) : ∀ u ∈ flatM ly, u.oneCell' = true := fun u hu => by
  obtain ⟨y, hy, hu⟩ := List.mem_flatMap.1 hu
  obtain ⟨f1, f2⟩ := hfy y hy
  obtain ⟨o1, c1, e1, -⟩ := own_slice f1
  obtain ⟨o2, c2, e2, -⟩ := own_slice f2
  simp only [cellsM, List.mem_cons, List.mem_nil_iff, or_false] at hu
  rcases hu with rfl | rfl | rfl | h | h
  · rfl
  · rfl
  · rfl
  · rw [h, e1]; rfl
  · rw [h, e2]; rfl
theorem one_flatR {w : World} {ly : List (Cmd × Value × Value)} (hfy : ∀ y ∈ ly, Rd intV w y.2.1 y.1.list ∧ Rd byteV w y.2.2 y.1.bytes) : ∀ u ∈ flatM ly, u.oneCell' = true := fun u hu => by
  obtain ⟨y, hy, hu⟩ := List.mem_flatMap.1 hu
  obtain ⟨⟨o1, c1, e1, -⟩, ⟨o2, c2, e2, -⟩⟩ := hfy y hy
  simp only [cellsM, List.mem_cons, List.mem_nil_iff, or_false] at hu
  rcases hu with rfl | rfl | rfl | h | h
  · rfl
  · rfl
  · rfl
  · rw [h, e1]; rfl
  · rw [h, e2]; rfl
theorem few_mild (cs : List Cmd) : Mild (fewR cs) ∧ (fewR cs).length ≤ 12 := by
  have h1 : (fewR cs).length ≤ 12 := by unfold fewR; rw [List.length_map, List.length_take]; omega
  refine ⟨⟨by omega, fun c hc => ?_⟩, h1⟩
  unfold fewR at hc
  obtain ⟨x, _, rfl⟩ := List.mem_map.1 hc
  unfold few1
  dsimp only
  rw [List.length_take, List.length_take]
  omega
theorem mild_app {a b : List Cmd} (ha : Mild a ∧ a.length ≤ 12) (hb : Mild b ∧ b.length ≤ 12) : Mild (a ++ b) := by
  refine ⟨by rw [List.length_append]; omega, fun c hc => ?_⟩
  rcases List.mem_append.1 hc with h | h
  · exact ha.1.2 c h
  · exact hb.1.2 c h
set_option maxRecDepth 100000 in
set_option maxHeartbeats 3200000 in
theorem options_walk (va vb : Value) (A B : List Cmd) (w : World) (hA : InC w va A) (hB : InC w vb B) (hp : Pow10 w) (hev : ErrVar w) (hm : MaxV w) : Calls Tryd.prog 3 #[va, vb] w (Back (.bool true) w) := by
  obtain ⟨iC, hiC, hC0, hC1, hC2⟩ := info_parts (show (Tryd.prog.info? CmT).map (fun i => (i.zero, i.size, i.bytes)) = some (some (.agg #[.int .i64 0, .int .i64 0, .int .i64 0, .slice none 0 0, .slice none 0 0]), 5, 72) by kernel_rfl)
  have tC : Tryd.prog.underlying 31 = some (.slice CmT) := by kernel_rfl
  obtain ⟨iR, hiR, hR0, hR1, hR2⟩ := info_parts (show (Tryd.prog.info? RcT).map (fun i => (i.zero, i.size, i.bytes)) = some (some (.agg #[.int .i64 0, .int .i64 0, .int .i64 0, .slice none 0 0, .slice none 0 0]), 5, 72) by kernel_rfl)
  have tR : Tryd.prog.underlying 22 = some (.slice RcT) := by kernel_rfl
  have HA := Lib.hid hA
  have HB := Lib.hid hB
  clear hA hB
  obtain ⟨A', hA'⟩ : ∃ l, fewR A = l := ⟨_, rfl⟩
  obtain ⟨B', hB'⟩ : ∃ l, fewR B = l := ⟨_, rfl⟩
  have hma := few_mild A
  have hmb := few_mild B
  rw [hA'] at hma
  rw [hB'] at hmb
  have HMA := Lib.hid hma
  have HMB := Lib.hid hmb
  have HA' := Lib.hid hA'
  have HB' := Lib.hid hB'
  clear hma hmb hA' hB'
  go_enter Tryd.func3, Tryd.ntmps3
  go_wp2_with fail
  refine (awake_any _ hev hp hm).mono ?_; rintro e w1 ⟨rfl, hb1⟩
  go_wp2_with fail
  refine (few_any w _ _ _ HA.out hb1).mono ?_; rintro e w2 ⟨hb2, v2, rfl, hF2⟩
  rw [HA'.out] at hF2
  have hb2 := hb1.trans (hb2.mono hb1.size)
  have HF2 := Lib.hid hF2
  clear hF2
  go_wp2_with fail
  refine (few_any w _ _ _ HB.out hb2).mono ?_; rintro e w3 ⟨hb3, v3, rfl, hF3⟩
  rw [HB'.out] at hF3
  have HF2 := Lib.hid (HF2.out.below hb3)
  have hb3 := hb2.trans (hb3.mono hb2.size)
  have HF3 := Lib.hid hF3
  clear hF3 hb1 hb2 HA HB HA' HB' hp hev hm
  go_wp2_with fail
  refine (own_any _ _ _ (HF2.out.few hb3) HMA.out.1).mono ?_; rintro e w4 ⟨hb4, v4, rfl, hO4⟩
  have HF2 := Lib.hid (HF2.out.below hb4)
  have HF3 := Lib.hid (HF3.out.below hb4)
  have HO4 := Lib.hid (hO4.mono hb3.size)
  have hb4 := hb3.trans (hb4.mono hb3.size)
  clear hO4 hb3
  go_wp2_with fail
  refine (own_any _ _ _ (HF3.out.few hb4) HMB.out.1).mono ?_; rintro e w5 ⟨hb5, v5, rfl, hO5⟩
  have HF2 := Lib.hid (HF2.out.below hb5)
  have HF3 := Lib.hid (HF3.out.below hb5)
  have HO4 := Lib.hid (HO4.out.below hb5)
  have HO5 := Lib.hid (hO5.mono hb4.size)
  have hb5 := hb4.trans (hb5.mono hb4.size)
  clear hO5 hb4
  obtain ⟨lx, hlx, hox, hfx⟩ := HO4.out
  obtain ⟨ly, hly, hoy, hfy⟩ := HO5.out
  have hlx' : lx.length ≤ 12 := by have h := congrArg List.length hlx; rw [List.length_map] at h; have := HMA.out.2; omega
  have hly' : ly.length ≤ 12 := by have h := congrArg List.length hly; rw [List.length_map] at h; have := HMB.out.2; omega
  have hone : ∀ u ∈ flatM ly, u.oneCell' = true := one_flat (fun y hy => (hfy y hy))
  have HLX := Lib.hid hlx
  have HLY := Lib.hid hly
  have HOX := Lib.hid hox
  have HOY := Lib.hid hoy
  have HFX := Lib.hid hfx
  have HFY := Lib.hid hfy
  have HONE := Lib.hid hone
  clear hlx hly hox hoy hfx hfy hone HO4 HO5
  go_wp2_with (at_builtin; refine wpList_join _ rfl _ _ 31 CmT rfl tC iC (.agg #[.int .i64 0, .int .i64 0, .int .i64 0, .slice none 0 0, .slice none 0 0]) 5 72 hiC hC0 hC1 hC2 rfl (by decide) HOX.out rfl rfl HOY.out HONE.out ?c1 ?c2 ?c3 ?_)
  case c1 => unfold maxLen; omega
  case c2 => omega
  case c3 => exact hb5.size
  intro v6 w6 hown6 hg6 _
  have HO6 := Lib.hid (show Cmds CmT w.heap.size v6 (A' ++ B') w6 from ⟨lx ++ ly, by rw [List.map_append, HLX.out, HLY.out], by rw [List.length_append, show flatM (lx ++ ly) = flatM lx ++ flatM ly by unfold flatM; simp]; exact hown6, fun x hx => by
    rcases List.mem_append.1 hx with hx | hx
    · exact ⟨own_grown (HFX.out x hx).1 hg6 HOX.out (by decide), own_grown (HFX.out x hx).2 hg6 HOX.out (by decide)⟩
    · exact ⟨own_grown (HFY.out x hx).1 hg6 HOX.out (by decide), own_grown (HFY.out x hx).2 hg6 HOX.out (by decide)⟩⟩)
  have hb6 := hb5.grown hg6 hb5.size (fun k hk => (HOX.out.lt k hk).1)
  have HF2 := Lib.hid (HF2.out.grown hg6 HOX.out (by decide))
  have HF3 := Lib.hid (HF3.out.grown hg6 HOX.out (by decide))
  clear hown6 hg6 HOX HOY HFX HFY HONE HLX HLY hb5 hlx' hly'
  have hmab := mild_app HMA.out HMB.out
  have HMAB := Lib.hid hmab
  clear hmab
  go_wp2_with fail
  refine (options_any _ _ _ HO6.out HMAB.out).mono ?_; rintro e w7 ⟨hb7, io, il, ic, ko, kl, kc, co, ll, cc, rfl, hI, hT, hC⟩
  have HF2 := Lib.hid (HF2.out.below hb7)
  have HF3 := Lib.hid (HF3.out.below hb7)
  have HI7 := Lib.hid (own_mono hI hb6.size)
  have HT7 := Lib.hid (own_mono hT hb6.size)
  have HC7 := Lib.hid (own_mono hC hb6.size)
  have hb7 := hb6.trans (hb7.mono hb6.size)
  clear hI hT hC hb6 HO6
  go_wp2_with fail
  have hx8 := Blk.made (T := OpT) (cs := #[.slice io il ic, .slice ko kl kc, .slice co ll cc, .int .i64 0]) w7
  have hX8 : Below w7.heap.size w7 (w7.alloc (.cells #[.slice io il ic, .slice ko kl kc, .slice co ll cc, .int .i64 0] OpT)) := (Below.refl _ _).alloc (Nat.le_refl _) _
  obtain ⟨W8, hW8⟩ : ∃ W, w7.alloc (.cells #[.slice io il ic, .slice ko kl kc, .slice co ll cc, .int .i64 0] OpT) = W := ⟨_, rfl⟩
  rw [hW8] at hx8 hX8 ⊢
  have hb8 := hb7.trans (hX8.mono hb7.size)
  have HF2 := Lib.hid (HF2.out.below hX8)
  have HF3 := Lib.hid (HF3.out.below hX8)
  have HI8 := Lib.hid (own_below HI7.out hX8)
  have HT8 := Lib.hid (own_below HT7.out hX8)
  have HC8 := Lib.hid (own_below HC7.out hX8)
  obtain ⟨OB, hOB⟩ : ∃ b, w7.heap.size = b := ⟨_, rfl⟩
  rw [hOB] at hx8 ⊢
  have HX8 := Lib.hid hx8
  clear hx8 hX8 hW8 hOB hb7 HI7 HT7 HC7
  refine (own_any _ _ _ (HF2.out.few hb8) HMA.out.1).mono ?_; rintro e w9 ⟨hb9, v9, rfl, hO9⟩
  have HO9 := Lib.hid hO9
  have hb98 := hb9
  have hb9 := hb8.trans (hb9.mono hb8.size)
  clear hO9
  go_wp2_with fail
  refine (options_any _ _ _ HO9.out HMA.out.1).mono ?_; rintro e w10 ⟨hb10, pio, pil, pic, pko, pkl, pkc, pco, pll, pcc, rfl, -, hT10, -⟩
  have hb108 := hb98.trans (hb10.mono hb98.size)
  have HT10 := Lib.hid (own_mono hT10 hb9.size)
  have hb10 := hb9.trans (hb10.mono hb9.size)
  clear hT10 HO9 hb98 hb9
  have HX10 := Lib.hid (HX8.out.below hb108 HX8.out.lt)
  have HF2 := Lib.hid (HF2.out.below hb108)
  have HF3 := Lib.hid (HF3.out.below hb108)
  have HI10 := Lib.hid (own_below HI8.out hb108)
  have HTO10 := Lib.hid (own_below HT8.out hb108)
  have HC10 := Lib.hid (own_below HC8.out hb108)
  clear hb108 HI8 HT8 HC8 HX8 hb8
  go_wp2_with fail
  have hx11 := Blk.made (T := OpT) (cs := #[.slice pio pil pic, .slice pko pkl pkc, .slice pco pll pcc, .int .i64 0]) w10
  have hX11 : Below w10.heap.size w10 (w10.alloc (.cells #[.slice pio pil pic, .slice pko pkl pkc, .slice pco pll pcc, .int .i64 0] OpT)) := (Below.refl _ _).alloc (Nat.le_refl _) _
  obtain ⟨W11, hW11⟩ : ∃ W, w10.alloc (.cells #[.slice pio pil pic, .slice pko pkl pkc, .slice pco pll pcc, .int .i64 0] OpT) = W := ⟨_, rfl⟩
  rw [hW11] at hx11 hX11 ⊢
  have hb11 := hb10.trans (hX11.mono hb10.size)
  have HX11 := Lib.hid (HX10.out.below hX11 HX10.out.lt)
  have HF2 := Lib.hid (HF2.out.below hX11)
  have HF3 := Lib.hid (HF3.out.below hX11)
  have HI11 := Lib.hid (own_below HI10.out hX11)
  have HTO11 := Lib.hid (own_below HTO10.out hX11)
  have HC11 := Lib.hid (own_below HC10.out hX11)
  have HT11 := Lib.hid (own_below HT10.out hX11)
  obtain ⟨PB, hPB⟩ : ∃ b, w10.heap.size = b := ⟨_, rfl⟩
  rw [hPB] at hx11 ⊢
  have HP11 := Lib.hid hx11
  clear hx11 hX11 hW11 hPB hb10 HI10 HTO10 HC10 HT10 HX10
  refine (own_any _ _ _ (HF3.out.few hb11) HMB.out.1).mono ?_; rintro e w12 ⟨hb12, v12, rfl, hO12⟩
  have HO12 := Lib.hid hO12
  have hbq := hb12
  have hb12 := hb11.trans (hb12.mono hb11.size)
  clear hO12
  go_wp2_with fail
  refine (options_any _ _ _ HO12.out HMB.out.1).mono ?_; rintro e w13 ⟨hb13, qio, qil, qic, qko, qkl, qkc, qco, qll, qcc, rfl, -, hT13, -⟩
  have hbq := hbq.trans (hb13.mono hbq.size)
  have hT13 := own_mono hT13 hb12.size
  have hb13 := hb12.trans (hb13.mono hb12.size)
  have hX14 : Below w13.heap.size w13 (w13.alloc (.cells #[.slice qio qil qic, .slice qko qkl qkc, .slice qco qll qcc, .int .i64 0] OpT)) := (Below.refl _ _).alloc (Nat.le_refl _) _
  have HX14 := Lib.hid hX14
  have HBQ := Lib.hid hbq
  have HT13 := Lib.hid hT13
  clear HO12 hb12 hbq hT13 hX14
  go_upto_region 10 with fail
  have hx14 := Blk.made (T := OpT) (cs := #[.slice qio qil qic, .slice qko qkl qkc, .slice qco qll qcc, .int .i64 0]) w13
  obtain ⟨W14, hW14⟩ : ∃ W, w13.alloc (.cells #[.slice qio qil qic, .slice qko qkl qkc, .slice qco qll qcc, .int .i64 0] OpT) = W := ⟨_, rfl⟩
  rw [hW14] at hx14 HX14 ⊢
  have hb14 := hb13.trans (HX14.out.mono hb13.size)
  have hbq := HBQ.out.trans (HX14.out.mono HBQ.out.size)
  have HX14' := Lib.hid (HX11.out.below hbq HX11.out.lt)
  have HP14 := Lib.hid (HP11.out.below hbq HP11.out.lt)
  have HF2 := Lib.hid (HF2.out.below hbq)
  have HF3 := Lib.hid (HF3.out.below hbq)
  have HI14 := Lib.hid (own_below HI11.out hbq)
  have HTO14 := Lib.hid (own_below HTO11.out hbq)
  have HC14 := Lib.hid (own_below HC11.out hbq)
  have HTP14 := Lib.hid (own_below HT11.out hbq)
  have HTQ14 := Lib.hid (own_below HT13.out HX14.out)
  obtain ⟨QB, hQB⟩ : ∃ b, w13.heap.size = b := ⟨_, rfl⟩
  rw [hQB] at hx14 ⊢
  have HQ14 := Lib.hid hx14
  obtain ⟨ra, hra, hroa, hpa⟩ := HF2.out
  obtain ⟨rb, hrb, hrob, hpb⟩ := HF3.out
  have hra' : ra.length ≤ 12 := by have h := congrArg List.length hra; rw [List.length_map] at h; have := HMA.out.2; omega
  have hrb' : rb.length ≤ 12 := by have h := congrArg List.length hrb; rw [List.length_map] at h; have := HMB.out.2; omega
  have HRA := Lib.hid hra
  have HRB := Lib.hid hrb
  have HPA := Lib.hid hpa
  have HPB := Lib.hid hpb
  have hX15 : Below W14.heap.size W14 (W14.alloc (.cells #[] RcT)) := (Below.refl _ _).alloc (Nat.le_refl _) _
  have hE : (W14.alloc (.cells #[] RcT)).ownsRow W14.heap.size RcT 5 (.slice (some ⟨W14.heap.size, 0, none⟩) 0 0) 0 [] := World.ownsRow_made (e := RcT) (size := 5) W14 #[] 0 (Nat.le_refl _) (by unfold maxLen; omega) rfl
  have HE := Lib.hid hE
  have HX15 := Lib.hid hX15
  have HROA := Lib.hid (own_below hroa hX15)
  have HROB := Lib.hid hrob
  have HONA := Lib.hid (one_flatR hpa)
  have HONB := Lib.hid (one_flatR hpb)
  clear hx14 hW14 hQB HX14 HBQ HX11 HP11 HF2 HF3 HI11 HTO11 HC11 HT11 HT13 hbq hb13 hb11 hra hrb hroa hrob hpa hpb hX15 hE
  go_wp2_with (at_builtin; refine wpList_join _ rfl _ _ 22 RcT rfl tR iR (.agg #[.int .i64 0, .int .i64 0, .int .i64 0, .slice none 0 0, .slice none 0 0]) 5 72 hiR hR0 hR1 hR2 rfl (by decide) HE.out rfl rfl HROA.out HONA.out ?c1 ?c2 ?c3 ?_)
  case c1 => unfold maxLen; omega
  case c2 => omega
  case c3 => exact HX15.out.size
  intro v15 w15 hown15 hg15 _
  have hb15 := HX15.out.grown hg15 HX15.out.size (fun k hk => (HE.out.lt k hk).1)
  have HOWN15 := Lib.hid hown15
  have HB15 := Lib.hid hb15
  have HROB15 := Lib.hid (own_below HROB.out hb15)
  clear hown15 hg15 hb15
  go_wp2_with (at_builtin; refine wpList_join _ rfl _ _ 22 RcT rfl tR iR (.agg #[.int .i64 0, .int .i64 0, .int .i64 0, .slice none 0 0, .slice none 0 0]) 5 72 hiR hR0 hR1 hR2 rfl (by decide) HOWN15.out rfl rfl HROB15.out HONB.out ?c1 ?c2 ?c3 ?_)
  case c1 => unfold maxLen; omega
  case c2 => omega
  case c3 => exact HB15.out.size
  intro v16 w16 hown16 hg16 _
  have hb16 := HB15.out.grown hg16 HB15.out.size (fun k hk => (HOWN15.out.lt k hk).1)
  obtain ⟨zo, zc, rfl, hzo⟩ := own_slice hown16
  have hla : (ra ++ rb).length = ra.length + rb.length := List.length_append
  have hmapr : (ra ++ rb).map (·.1) = A' ++ B' := by rw [List.map_append, HRA.out, HRB.out]
  have hfl : flatM ra ++ flatM rb = flatM (ra ++ rb) := by unfold flatM; simp
  have hpr : ∀ x ∈ ra ++ rb, Rd intV w x.2.1 x.1.list ∧ Rd byteV w x.2.2 x.1.bytes := fun x hx => by
    rcases List.mem_append.1 hx with hx | hx
    · exact HPA.out x hx
    · exact HPB.out x hx
  (try simp only [Nat.zero_add, List.nil_append] at hown16 hzo ⊢)
  rw [hfl, ← hla] at hown16
  rw [← hla] at hzo ⊢
  obtain ⟨rc, hrc⟩ : ∃ rc, ra ++ rb = rc := ⟨_, rfl⟩
  rw [hrc] at hown16 hzo hmapr hpr ⊢
  have hrc24 : rc.length ≤ 24 := by rw [← hrc, List.length_append]; omega
  obtain ⟨N, hN⟩ : ∃ N, rc.length = N := ⟨_, rfl⟩
  rw [hN] at hzo hrc24 ⊢
  have HX16 := Lib.hid (HX14'.out.below hb16 HX14'.out.lt)
  have HP16 := Lib.hid (HP14.out.below hb16 HP14.out.lt)
  have HQ16 := Lib.hid (HQ14.out.below hb16 HQ14.out.lt)
  have HI16 := Lib.hid (own_below HI14.out hb16)
  have HTO16 := Lib.hid (own_below HTO14.out hb16)
  have HC16 := Lib.hid (own_below HC14.out hb16)
  have HTP16 := Lib.hid (own_below HTP14.out hb16)
  have HTQ16 := Lib.hid (own_below HTQ14.out hb16)
  have hb16w := hb14.trans (hb16.mono hb14.size)
  have HR16 := Lib.hid hown16
  have HMR := Lib.hid hmapr
  have HPR := Lib.hid hpr
  have HNR := Lib.hid hN
  clear hla hfl hown16 hmapr hpr hrc hN hb16 hg16 HX14' HP14 HQ14 HI14 HTO14 HC14 HTP14 HTQ14 HE HX15 HROA HROB HONA HONB HOWN15 HB15 HROB15 HPA HPB HRA HRB hra' hrb' hb14
  obtain ⟨D, hD⟩ : ∃ D, A' ++ B' = D := ⟨_, rfl⟩
  rw [hD] at HMAB HI16 HTO16 HC16 HMR
  simp only [hD]
  have HD := Lib.hid hD
  clear hD
  have hNd : D.length = N := by rw [← HMR.out, List.length_map, HNR.out]
  have HND := Lib.hid hNd
  clear hNd
  obtain ⟨iU, hiU, hU0, hU1, hU2⟩ := info_parts (show (Tryd.prog.info? U8).map (fun i => (i.zero, i.size, i.bytes)) = some (some (.int .u8 0), 1, 1) by kernel_rfl)
  have tU : Tryd.prog.underlying 25 = some (.slice U8) := by kernel_rfl
  go_wp2_with fail
  go_loopw [11, 12, 13, 14, 52] (fun wn iv tn cn y wr => ∃ k : Nat, y = .int .i64 (k : Int) ∧ k ≤ N ∧ wn = .int .i64 (nR (D.take k) 60000) ∧ tn = .int .i64 ((tkR (D.take k)).length : Int) ∧ cn = .int .i64 ((coR (D.take k)).length : Int) ∧ Hid (Byts w16.heap.size iv (inR (D.take k)) wr) ∧ Below w16.heap.size w16 wr) (fun _ _ _ _ y _ => N - (intOf y).toNat)
  case atStart => exact ⟨0, rfl, Nat.zero_le _, by rw [List.take_zero]; rfl, by rw [List.take_zero]; rfl, by rw [List.take_zero]; rfl, Lib.hid (by rw [List.take_zero]; exact World.ownsRow_nil _ _ _ _), Below.refl _ _⟩
  case round =>
    obtain ⟨k, rfl, hk, rfl, rfl, rfl, hI, hbr⟩ := hrel
    by_cases hkn : k < N
    · have hdec : decide ((k : Int) < (N : Int)) = true := by simpa using hkn
      have hkw : IntKind.i64.wrap ((k : Int) + 1) = (k : Int) + 1 := IntWalk.i64_in _ (by omega)
      obtain ⟨gb, rfl, -, hgb, hgc, -⟩ := hzo (by omega)
      obtain ⟨x, hx⟩ : ∃ x, rc[k]? = some x := ⟨_, List.getElem?_eq_getElem (by rw [HNR.out]; exact hkn)⟩
      have hcx : D[k]? = some x.1 := by rw [← HMR.out, List.getElem?_map, hx]; rfl
      obtain ⟨c0, c1, c2, c3, c4⟩ := cmd_at (own_below HR16.out hbr) k x hx
      have hfx := HPR.out x (List.mem_of_getElem? hx)
      have htk := take_snoc hcx
      have hml := HMAB.out.2 x.1 (List.mem_of_getElem? hcx)
      have hbrw := hb16w.trans (hbr.mono hb16w.size)
      obtain ⟨c, lv, bv⟩ := x
      dsimp only at c0 c1 c2 c3 c4 hfx htk hml
      have hLV := hfx.1.below hbrw
      have hBV := hfx.2.below hbrw
      obtain ⟨lo, lc, rfl, -, -, -, -⟩ := id hLV
      obtain ⟨bo, bc, rfl, -, -, -, -⟩ := id hBV
      obtain ⟨ln, hln⟩ : ∃ z, c.list.length = z := ⟨_, rfl⟩
      obtain ⟨bn, hbn⟩ : ∃ z, c.bytes.length = z := ⟨_, rfl⟩
      rw [hln] at c3 hLV hml
      rw [hbn] at c4 hBV hml
      have HLN := Lib.hid hln
      have HBN := Lib.hid hbn
      have hnR := nR_snoc c (D.take k) 60000
      have hinR := inR_snoc c (D.take k)
      have htkR := tkR_snoc c (D.take k)
      have hcoR := coR_snoc c (D.take k)
      rw [← htk] at hnR hinR htkR hcoR
      have hli := in_le HMAB.out k
      have hlt := tk_le HMAB.out k
      have hlc := co_le HMAB.out k
      have HNRR := Lib.hid hnR
      have HINR := Lib.hid hinR
      have HTKR := Lib.hid htkR
      have HCOR := Lib.hid hcoR
      obtain ⟨nk, hnk⟩ : ∃ z, nR (D.take k) 60000 = z := ⟨_, rfl⟩
      obtain ⟨nt, hnt⟩ : ∃ z, (tkR (D.take k)).length = z := ⟨_, rfl⟩
      obtain ⟨nc, hnc⟩ : ∃ z, (coR (D.take k)).length = z := ⟨_, rfl⟩
      rw [hnt] at hlt
      rw [hnc] at hlc
      have HNK := Lib.hid hnk
      have HNT := Lib.hid hnt
      have HNC := Lib.hid hnc
      rw [hnk, hnt, hnc]
      have hgb' := Nat.lt_of_lt_of_le hgb hbr.size
      clear hx hcx hfx htk hnR hinR htkR hcoR hnk hnt hnc hln hbn hbrw
      go_upto_region 13 with fail
      have hX : Below wr.heap.size wr (wr.alloc (.cells #[.int .i64 c.kind, .int .i64 c.n, .int .i64 c.at_, .slice lo ln lc, .slice bo bn bc] RcT)) := (Below.refl _ _).alloc (Nat.le_refl _) _
      have hk5 := Blk.made (T := RcT) (cs := #[.int .i64 c.kind, .int .i64 c.n, .int .i64 c.at_, .slice lo ln lc, .slice bo bn bc]) wr
      obtain ⟨W5, hW5⟩ : ∃ W, wr.alloc (.cells #[.int .i64 c.kind, .int .i64 c.n, .int .i64 c.at_, .slice lo ln lc, .slice bo bn bc] RcT) = W := ⟨_, rfl⟩
      rw [hW5] at hX hk5 ⊢
      have HI5 := Lib.hid (own_below hI.out hX)
      have HBV := Lib.hid (hBV.below hX)
      have hb5 := hbr.trans (hX.mono hbr.size)
      obtain ⟨KB, hKB⟩ : ∃ b, wr.heap.size = b := ⟨_, rfl⟩
      rw [hKB] at hk5 ⊢
      have d0 := hk5.c 0 _ rfl
      have d1 := hk5.c 1 _ rfl
      have d2 := hk5.c 2 _ rfl
      have d3 := hk5.c 3 _ rfl
      have d4 := hk5.c 4 _ rfl
      clear hW5 hKB hX hk5 hI hLV hBV c0 c1 c2 c3 c4
      by_cases k1 : c.kind = 1
      · have q1 : ((c.kind : Int) == 1) = true := by rw [k1]; rfl
        have e1 : c.n = nR (D.take (k + 1)) 60000 := by rw [HNRR.out, if_pos k1]
        have e2 : (nt : Nat) = (tkR (D.take (k + 1))).length := by rw [HTKR.out, if_neg (by omega), List.length_append, HNT.out]; simp
        have e3 : (nc : Nat) = (coR (D.take (k + 1))).length := by rw [HCOR.out, if_neg (by omega), List.length_append, HNC.out]; simp
        have HI6 : Hid (Byts w16.heap.size _ (inR (D.take (k + 1))) W5) := Lib.hid (by rw [HINR.out, if_neg (by omega), List.append_nil]; exact HI5.out)
        have E1 := Lib.hid e1
        have E2 := Lib.hid e2
        have E3 := Lib.hid e3
        clear e1 e2 e3
        go_wp2_with fail
        exact ⟨⟨k + 1, by simp, by omega, vint E1.out, vint (by rw [← E2.out]), vint (by rw [← E3.out]), HI6, hb5⟩, by simp only [intOf]; omega⟩
      · have q1 : ((c.kind : Int) == 1) = false := by rw [beq_eq_false_iff_ne]; exact k1
        by_cases k2 : c.kind = 2
        · have q2 : ((c.kind : Int) == 2) = true := by rw [k2]; rfl
          have e1 : nk = nR (D.take (k + 1)) 60000 := by rw [HNRR.out, if_neg (by omega), HNK.out]
          have e2 : (nt : Nat) = (tkR (D.take (k + 1))).length := by rw [HTKR.out, if_neg (by omega), List.length_append, HNT.out]; simp
          have e3 : (nc : Nat) = (coR (D.take (k + 1))).length := by rw [HCOR.out, if_neg (by omega), List.length_append, HNC.out]; simp
          have E1 := Lib.hid e1
          have E2 := Lib.hid e2
          have E3 := Lib.hid e3
          clear e1 e2 e3
          have hd := HI5.out
          unfold Byts at hd
          go_wp2_with (at_builtin; refine wpList_rd (f := byteV) (fun _ => rfl) _ ?hw _ _ 25 U8 rfl tU iU (.int .u8 0) 1 hiU hU0 hU1 hU2 rfl hd rfl rfl HBV.out ?c1 ?c2 ?c3 ?_)
          case c1 => unfold maxLen; have := HBN.out; omega
          case c2 => have := HBN.out; omega
          case c3 => exact hb5.size
          intro v6 w6 hown6 hg6
          have hb6 := hb5.grown hg6 hb5.size (fun k hk => (hd.lt k hk).1)
          have HI6 : Hid (Byts w16.heap.size v6 (inR (D.take (k + 1))) w6) := Lib.hid (by unfold Byts; rw [HINR.out, if_pos k2, List.length_append, List.map_append]; exact hown6)
          clear hown6 hg6 hd d0 d1 d2 d3 d4
          go_wp2_with fail
          exact ⟨⟨k + 1, by simp, by omega, vint E1.out, vint (by rw [← E2.out]), vint (by rw [← E3.out]), HI6, hb6⟩, by simp only [intOf]; omega⟩
        · have q2 : ((c.kind : Int) == 2) = false := by rw [beq_eq_false_iff_ne]; exact k2
          by_cases k3 : c.kind = 3
          · have q3 : ((c.kind : Int) == 3) = true := by rw [k3]; rfl
            have e1 : nk = nR (D.take (k + 1)) 60000 := by rw [HNRR.out, if_neg (by omega), HNK.out]
            have e2 : (nt + ln : Nat) = (tkR (D.take (k + 1))).length := by rw [HTKR.out, if_pos k3, List.length_append, HNT.out]; rw [HLN.out]
            have e3 : (nc : Nat) = (coR (D.take (k + 1))).length := by rw [HCOR.out, if_neg (by omega), List.length_append, HNC.out]; simp
            have HI6 : Hid (Byts w16.heap.size _ (inR (D.take (k + 1))) W5) := Lib.hid (by rw [HINR.out, if_neg (by omega), List.append_nil]; exact HI5.out)
            have E1 := Lib.hid e1
            have E2 := Lib.hid e2
            have E3 := Lib.hid e3
            clear e1 e2 e3
            have hw : IntKind.i64.wrap ((nt : Int) + (ln : Int)) = ((nt + ln : Nat) : Int) := by rw [show ((nt : Int) + (ln : Int)) = ((nt + ln : Nat) : Int) by omega]; exact IntWalk.i64_in _ (by omega)
            go_wp2_with fail
            exact ⟨⟨k + 1, by simp, by omega, vint E1.out, vint (by rw [← E2.out]; simp), vint (by rw [← E3.out]), HI6, hb5⟩, by simp only [intOf]; omega⟩
          · have q3 : ((c.kind : Int) == 3) = false := by rw [beq_eq_false_iff_ne]; exact k3
            by_cases k4 : c.kind = 4
            · have q4 : ((c.kind : Int) == 4) = true := by rw [k4]; rfl
              have e1 : nk = nR (D.take (k + 1)) 60000 := by rw [HNRR.out, if_neg (by omega), HNK.out]
              have e2 : (nt : Nat) = (tkR (D.take (k + 1))).length := by rw [HTKR.out, if_neg (by omega), List.length_append, HNT.out]; simp
              have e3 : (nc + ln : Nat) = (coR (D.take (k + 1))).length := by rw [HCOR.out, if_pos k4, List.length_append, HNC.out]; rw [HLN.out]
              have HI6 : Hid (Byts w16.heap.size _ (inR (D.take (k + 1))) W5) := Lib.hid (by rw [HINR.out, if_neg (by omega), List.append_nil]; exact HI5.out)
              have E1 := Lib.hid e1
              have E2 := Lib.hid e2
              have E3 := Lib.hid e3
              clear e1 e2 e3
              have hw : IntKind.i64.wrap ((nc : Int) + (ln : Int)) = ((nc + ln : Nat) : Int) := by rw [show ((nc : Int) + (ln : Int)) = ((nc + ln : Nat) : Int) by omega]; exact IntWalk.i64_in _ (by omega)
              go_wp2_with fail
              exact ⟨⟨k + 1, by simp, by omega, vint E1.out, vint (by rw [← E2.out]), vint (by rw [← E3.out]; simp), HI6, hb5⟩, by simp only [intOf]; omega⟩
            · have q4 : ((c.kind : Int) == 4) = false := by rw [beq_eq_false_iff_ne]; exact k4
              have e1 : nk = nR (D.take (k + 1)) 60000 := by rw [HNRR.out, if_neg (by omega), HNK.out]
              have e2 : (nt : Nat) = (tkR (D.take (k + 1))).length := by rw [HTKR.out, if_neg (by omega), List.length_append, HNT.out]; simp
              have e3 : (nc : Nat) = (coR (D.take (k + 1))).length := by rw [HCOR.out, if_neg (by omega), List.length_append, HNC.out]; simp
              have HI6 : Hid (Byts w16.heap.size _ (inR (D.take (k + 1))) W5) := Lib.hid (by rw [HINR.out, if_neg (by omega), List.append_nil]; exact HI5.out)
              have E1 := Lib.hid e1
              have E2 := Lib.hid e2
              have E3 := Lib.hid e3
              clear e1 e2 e3
              go_wp2_with fail
              exact ⟨⟨k + 1, by simp, by omega, vint E1.out, vint (by rw [← E2.out]), vint (by rw [← E3.out]), HI6, hb5⟩, by simp only [intOf]; omega⟩
    · obtain rfl : k = N := by omega
      have hdec : decide ((k : Int) < (k : Int)) = false := by simp
      have hall : D.take k = D := List.take_of_length_le (by rw [HND.out]; exact Nat.le_refl _)
      rw [hall] at hI ⊢
      have HX5 := Lib.hid (HX16.out.below hbr HX16.out.lt)
      have HP5 := Lib.hid (HP16.out.below hbr HP16.out.lt)
      have HQ5 := Lib.hid (HQ16.out.below hbr HQ16.out.lt)
      have hI5 := own_below HI16.out hbr
      have hTO5 := own_below HTO16.out hbr
      have hC5 := own_below HC16.out hbr
      have hTP5 := own_below HTP16.out hbr
      have hTQ5 := own_below HTQ16.out hbr
      obtain ⟨rfl, -⟩ := own_len hI5
      obtain ⟨rfl, hko⟩ := own_len hTO5
      obtain ⟨rfl, -⟩ := own_len hC5
      obtain ⟨rfl, hpo⟩ := own_len hTP5
      obtain ⟨rfl, hqo⟩ := own_len hTQ5
      have hsum : (tkR A').length + (tkR B').length = (tkR D).length := by rw [← HD.out]; unfold tkR; simp
      have hle := tk_le HMAB.out k
      rw [hall] at hle
      obtain ⟨nk, hnk⟩ : ∃ z, nR D 60000 = z := ⟨_, rfl⟩
      obtain ⟨nt, hnt⟩ : ∃ z, (tkR D).length = z := ⟨_, rfl⟩
      obtain ⟨nc, hnc⟩ : ∃ z, (coR D).length = z := ⟨_, rfl⟩
      obtain ⟨ni, hni⟩ : ∃ z, (inR D).length = z := ⟨_, rfl⟩
      obtain ⟨pt, hpt⟩ : ∃ z, (tkR A').length = z := ⟨_, rfl⟩
      obtain ⟨qt, hqt⟩ : ∃ z, (tkR B').length = z := ⟨_, rfl⟩
      have HNI := Lib.hid hni
      have HNT := Lib.hid hnt
      have HPT := Lib.hid hpt
      have HQT := Lib.hid hqt
      rw [hnt] at hle hko
      rw [hpt] at hpo
      rw [hqt] at hqo
      rw [hnt, hpt, hqt] at hsum
      have HI5' := Lib.hid hI5
      have HTO5 := Lib.hid hTO5
      have HTP5 := Lib.hid hTP5
      have HTQ5 := Lib.hid hTQ5
      have HIN := hI
      rw [hni, hnt, hnc] at HX5
      rw [hpt] at HP5
      rw [hqt] at HQ5
      clear hI5 hTO5 hC5 hTP5 hTQ5 hI HX16 HP16 HQ16 HI16 HTO16 HC16 HTP16 HTQ16 HR16 HPR hall
      simp only [hnk, hnt, hnc, hni, hpt, hqt]
      clear hnk hnt hnc hni hpt hqt
      have heq := equal_any HI5'.out HIN.out
      rw [HNI.out] at heq
      have HEQ := Lib.hid heq
      clear heq
      have x0 := HX5.out.c 0 _ rfl
      go_wp2_with fail
      refine HEQ.out.mono ?_; rintro e w17 ⟨rfl, hb17⟩
      have HX7 := Lib.hid (HX5.out.below hb17 HX5.out.lt)
      have HP7 := Lib.hid (HP5.out.below hb17 HP5.out.lt)
      have HQ7 := Lib.hid (HQ5.out.below hb17 HQ5.out.lt)
      have HTO7 := Lib.hid (own_below HTO5.out hb17)
      have HTP7 := Lib.hid (own_below HTP5.out hb17)
      have HTQ7 := Lib.hid (own_below HTQ5.out hb17)
      have hb17w := hb16w.trans ((hbr.trans (hb17.mono hbr.size)).mono hb16w.size)
      clear HX5 HP5 HQ5 HTO5 HTP5 HTQ5 HI5' HIN HEQ x0 hb17
      have x1 := HX7.out.c 1 _ rfl
      have x2 := HX7.out.c 2 _ rfl
      have p1 := HP7.out.c 1 _ rfl
      have q1 := HQ7.out.c 1 _ rfl
      have hsw : IntKind.i64.wrap ((pt : Int) + (qt : Int)) = (nt : Int) := by rw [show ((pt : Int) + (qt : Int)) = (nt : Int) by omega]; exact IntWalk.i64_in _ (by omega)
      go_upto_region 25 with fail
      obtain ⟨iI, hiI, hI0, hI1, hI2⟩ := info_parts (show (Tryd.prog.info? IT).map (fun i => (i.zero, i.size, i.bytes)) = some (some (.int .i64 0), 1, 8) by kernel_rfl)
      have tI : Tryd.prog.underlying 26 = some (.slice IT) := by kernel_rfl
      have hle7 : nt ≤ 10000000 := hle
      have hbD : Below w17.heap.size w17 w17.drew := (Below.refl _ _).drew
      have hbE : Below w17.heap.size w17 (w17.drew.alloc (.cells #[] IT)) := (Below.refl _ w17).drew.alloc (Nat.le_refl _) _
      have hE : (w17.drew.alloc (.cells #[] IT)).ownsRow w17.heap.size IT 1 (.slice (some ⟨w17.heap.size, 0, none⟩) 0 0) 0 [] := World.ownsRow_made (e := IT) (size := 1) w17.drew #[] 0 (Nat.le_refl _) (by unfold maxLen; omega) rfl
      have HE0 := Lib.hid hE
      have HBE0 := Lib.hid hbE
      have HBD := Lib.hid hbD
      have hpe : (w17.drew.alloc (.cells #[] IT)).ownsRow w.heap.size IT 1 (.slice pko pt pkc) pt ((tkR A').map intV) := by have h := own_below HTP7.out hbE; rw [HPT.out] at h; exact h
      have hqe : (w17.drew.alloc (.cells #[] IT)).ownsRow w.heap.size IT 1 (.slice qko qt qkc) qt ((tkR B').map intV) := by have h := own_below HTQ7.out hbE; rw [HQT.out] at h; exact h
      have hapq : (Value.slice qko qt qkc).ownBlock = none ∨ (Value.slice qko qt qkc).ownBlock ≠ (Value.slice (some ⟨w17.heap.size, 0, none⟩) 0 0).ownBlock := by
        cases hq : (Value.slice qko qt qkc).ownBlock with
        | none => exact .inl rfl
        | some k =>
          refine .inr (fun e => ?_)
          have h1 : k = w17.heap.size := by simpa [Value.ownBlock] using e
          have h2 := (World.ownsRow.lt HTQ7.out k (by rw [HQT.out]; exact hq)).2
          omega
      have HPE := Lib.hid hpe
      have HQE := Lib.hid hqe
      have HAPQ := Lib.hid hapq
      have HONP : Hid (∀ u ∈ (tkR A').map intV, u.oneCell' = true) := Lib.hid (fun u hu => by obtain ⟨y, _, rfl⟩ := List.mem_map.1 hu; rfl)
      have HONQ : Hid (∀ u ∈ (tkR B').map intV, u.oneCell' = true) := Lib.hid (fun u hu => by obtain ⟨y, _, rfl⟩ := List.mem_map.1 hu; rfl)
      have hS : ∀ v, Below w17.heap.size w17 v → (v.cell? ⟨PB, 1, none⟩ = some (.slice pko pt pkc) ∧ v.cell? ⟨QB, 1, none⟩ = some (.slice qko qt qkc)) := fun v hv => ⟨(HP7.out.below hv HP7.out.lt).c 1 _ rfl, (HQ7.out.below hv HQ7.out.lt).c 1 _ rfl⟩
      clear hE hbE hbD hpe hqe hapq
      go_cut [124, 125, 126] (fun s124 s125 s126 wx => ∃ fo fc, s124 = .slice fo nt fc ∧ s125 = .int .i64 (nt : Int) ∧ s126 = .int .i64 0 ∧ wx.ownsRow w17.heap.size IT 1 (.slice fo nt fc) (0 + pt + qt) ([] ++ (tkR A').map intV ++ (tkR B').map intV) ∧ Below w17.heap.size w17 wx)
      case first =>
        refine wp_region_noPanic ?_
        refine Hd.start (fun v => v.cell? ⟨PB, 1, none⟩ = some (.slice pko pt pkc) ∧ v.cell? ⟨QB, 1, none⟩ = some (.slice qko qt qkc)) (by kernel_rfl) (hS _ HBD.out) (fun hH0 => ?_)
        refine Hd.take 1 2 (oi := ?_) (v := ?_) ?_ (by kernel_rfl) (fun _ _ _ h => h) hH0 ?_ ?_ ?_
        rotate_left 2
        · simp only [List.getElem?_toArray, List.getElem?_cons_succ, List.getElem?_cons_zero]
          exact rfl
        · rfl
        · intro w hSw
          (try dsimp only at hSw)
          go_simp
          try with_reducible rfl
        try simp only [Act.put, List.setIfInBounds_toArray, List.set_cons_zero, List.set_cons_succ]
        refine Hd.take 2 3 (oi := ?_) (v := ?_) ?_ (by kernel_rfl) (fun _ _ _ h => h) hH0 ?_ ?_ ?_
        rotate_left 2
        · simp only [List.getElem?_toArray, List.getElem?_cons_succ, List.getElem?_cons_zero]
          exact rfl
        · rfl
        · intro w hSw
          (try dsimp only at hSw)
          go_simp
          try with_reducible rfl
        try simp only [Act.put, List.setIfInBounds_toArray, List.set_cons_zero, List.set_cons_succ]
        refine Hd.take 4 5 (oi := ?_) (v := ?_) ?_ (by kernel_rfl) (fun _ _ _ h => h) hH0 ?_ ?_ ?_
        rotate_left 2
        · simp only [List.getElem?_toArray, List.getElem?_cons_succ, List.getElem?_cons_zero]
          exact rfl
        · rfl
        · intro w hSw
          (try dsimp only at hSw)
          go_simp
          try with_reducible rfl
        try simp only [Act.put, List.setIfInBounds_toArray, List.set_cons_zero, List.set_cons_succ]
        refine Hd.take 5 6 (oi := ?_) (v := ?_) ?_ (by kernel_rfl) (fun _ _ _ h => h) hH0 ?_ ?_ ?_
        rotate_left 2
        · simp only [List.getElem?_toArray, List.getElem?_cons_succ, List.getElem?_cons_zero]
          exact rfl
        · rfl
        · intro w hSw
          (try dsimp only at hSw)
          go_simp
          try with_reducible rfl
        try simp only [Act.put, List.setIfInBounds_toArray, List.set_cons_zero, List.set_cons_succ]
        refine Hd.two 0 8 (o := ?_) (p := ?_) ?_ ?_ (by kernel_rfl) (fun K hK => ?_) (fun K hK => ?_)
        rotate_left 2
        · simp only [List.getElem?_toArray, List.getElem?_cons_zero]
          exact rfl
        · simp only [List.getElem?_toArray, List.getElem?_cons_succ, List.getElem?_cons_zero]
          exact rfl
        · skip
          go_simp
          refine hK.out _ _ (hS _ HBE0.out) (fun hH1 => ?_)
          clear hK K
          try simp only [Act.put, List.setIfInBounds_toArray, List.set_cons_zero, List.set_cons_succ]
          refine Hd.two 3 8 (o := ?_) (p := ?_) ?_ ?_ (by kernel_rfl) (fun K hK => ?_) (fun K hK => ?_)
          rotate_left 2
          · simp only [List.getElem?_toArray, List.getElem?_cons_succ, List.getElem?_cons_zero]
            exact rfl
          · simp only [List.getElem?_toArray, List.getElem?_cons_succ, List.getElem?_cons_zero]
            exact rfl
          · skip
            refine step_join rfl (.tmp 118) (.tmp 120) 26 IT rfl tI iI (.int .i64 0) 1 8 hiI hI0 hI1 hI2 rfl (by decide) HE0.out (by simp [Act.eval]) (by simp [Act.eval]) HPE.out HONP.out (by unfold maxLen; omega) (by omega) HBE0.out.size ?_
            intro v18 w18 hown18 hg18
            have HOW18 := Lib.hid hown18
            have HB18 := Lib.hid (HBE0.out.grown hg18 HBE0.out.size (fun k hk => (HE0.out.lt k hk).1))
            have HQE18 := Lib.hid (World.ownsRow.kept HQE.out hg18 (HAPQ.out))
            clear hown18 hg18
            refine hK.out _ _ (hS _ HB18.out) (fun hH2 => ?_)
            clear hK K
            try simp only [Act.put, List.setIfInBounds_toArray, List.set_cons_zero, List.set_cons_succ]
            refine Hd.two 6 8 (o := ?_) (p := ?_) ?_ ?_ (by kernel_rfl) (fun K hK => ?_) (fun K hK => ?_)
            rotate_left 2
            · simp only [List.getElem?_toArray, List.getElem?_cons_succ, List.getElem?_cons_zero]
              exact rfl
            · simp only [List.getElem?_toArray, List.getElem?_cons_succ, List.getElem?_cons_zero]
              exact rfl
            · skip
              refine step_join rfl (.tmp 121) (.tmp 123) 26 IT rfl tI iI (.int .i64 0) 1 8 hiI hI0 hI1 hI2 rfl (by decide) HOW18.out (by simp [Act.eval]) (by simp [Act.eval]) HQE18.out HONQ.out (by unfold maxLen; omega) (by omega) HB18.out.size ?_
              intro v19 w19 hown19 hg19
              have HB19 := Lib.hid (HB18.out.grown hg19 HB18.out.size (fun k hk => (HOW18.out.lt k hk).1))
              obtain ⟨fo, fn, fc, rfl⟩ : ∃ a b c, v19 = .slice a b c := by obtain ⟨fo, fc, h, -⟩ := own_slice hown19; exact ⟨_, _, _, h⟩
              obtain ⟨hfn0, -⟩ := own_len hown19
              have hfn : fn = nt := by omega
              clear hfn0
              subst hfn
              have HOW19 := Lib.hid hown19
              clear hown19 hg19
              refine hK.out _ _ (hS _ HB19.out) (fun hH3 => ?_)
              clear hK K
              try simp only [Act.put, List.setIfInBounds_toArray, List.set_cons_zero, List.set_cons_succ]
              refine Hd.two 7 8 (o := ?_) (p := ?_) ?_ ?_ (by kernel_rfl) (fun K hK => ?_) (fun K hK => ?_)
              rotate_left 2
              · simp only [List.getElem?_toArray, List.getElem?_cons_succ, List.getElem?_cons_zero]
                exact rfl
              · simp only [List.getElem?_toArray, List.getElem?_cons_succ, List.getElem?_cons_zero]
                exact rfl
              · skip
                go_simp
                refine hK.out _ _ (hS _ HB19.out) (fun hH4 => ?_)
                clear hK K
                try simp only [Act.put, List.setIfInBounds_toArray, List.set_cons_zero, List.set_cons_succ]
                refine Hd.last 8 (o := ?_) ?_ (by kernel_rfl) (by kernel_rfl) (by kernel_rfl) (fun K hK => ?_)
                rotate_left 1
                · simp only [List.getElem?_toArray, List.getElem?_cons_succ, List.getElem?_cons_zero]
                  exact rfl
                go_simp
                refine hK.out _ _ ?_
                clear hK K
                try simp only [Act.put, List.setIfInBounds_toArray, List.set_cons_zero, List.set_cons_succ]
                simp only [NoPanic]
                go_wp2_with fail
                go_meet
                exact ⟨fo, fc, rfl, rfl, rfl, HOW19.out, HB19.out⟩
              · go_simp
                refine hK.out _ _ (hS _ HB19.out) (fun hH4 => ?_)
                clear hK K
                try simp only [Act.put, List.setIfInBounds_toArray, List.set_cons_zero, List.set_cons_succ]
                refine Hd.last 7 (o := ?_) ?_ (by kernel_rfl) (by kernel_rfl) (by kernel_rfl) (fun K hK => ?_)
                rotate_left 1
                · simp only [List.getElem?_toArray, List.getElem?_cons_succ, List.getElem?_cons_zero]
                  exact rfl
                go_simp
                refine hK.out _ _ ?_
                clear hK K
                try simp only [Act.put, List.setIfInBounds_toArray, List.set_cons_zero, List.set_cons_succ]
                simp only [NoPanic]
                go_wp2_with fail
                go_meet
                exact ⟨fo, fc, rfl, rfl, rfl, HOW19.out, HB19.out⟩
            · go_simp
              refine hK.out _ _ (hS _ HB18.out) (fun hH3 => ?_)
              clear hK K
              try simp only [Act.put, List.setIfInBounds_toArray, List.set_cons_zero, List.set_cons_succ]
              refine Hd.one 6 6 (o := ?_) ?_ (by kernel_rfl) (fun K hK => ?_)
              rotate_left 1
              · simp only [List.getElem?_toArray, List.getElem?_cons_succ, List.getElem?_cons_zero]
                exact rfl
              refine step_join rfl (.tmp 121) (.tmp 123) 26 IT rfl tI iI (.int .i64 0) 1 8 hiI hI0 hI1 hI2 rfl (by decide) HOW18.out (by simp [Act.eval]) (by simp [Act.eval]) HQE18.out HONQ.out (by unfold maxLen; omega) (by omega) HB18.out.size ?_
              intro v19 w19 hown19 hg19
              have HB19 := Lib.hid (HB18.out.grown hg19 HB18.out.size (fun k hk => (HOW18.out.lt k hk).1))
              obtain ⟨fo, fn, fc, rfl⟩ : ∃ a b c, v19 = .slice a b c := by obtain ⟨fo, fc, h, -⟩ := own_slice hown19; exact ⟨_, _, _, h⟩
              obtain ⟨hfn0, -⟩ := own_len hown19
              have hfn : fn = nt := by omega
              clear hfn0
              subst hfn
              have HOW19 := Lib.hid hown19
              clear hown19 hg19
              refine hK.out _ _ (hS _ HB19.out) (fun hH7 => ?_)
              clear hK K
              try simp only [Act.put, List.setIfInBounds_toArray, List.set_cons_zero, List.set_cons_succ]
              refine Hd.last 7 (o := ?_) ?_ (by kernel_rfl) (by kernel_rfl) (by kernel_rfl) (fun K hK => ?_)
              rotate_left 1
              · simp only [List.getElem?_toArray, List.getElem?_cons_succ, List.getElem?_cons_zero]
                exact rfl
              go_simp
              refine hK.out _ _ ?_
              clear hK K
              try simp only [Act.put, List.setIfInBounds_toArray, List.set_cons_zero, List.set_cons_succ]
              simp only [NoPanic]
              go_wp2_with fail
              go_meet
              exact ⟨fo, fc, rfl, rfl, rfl, HOW19.out, HB19.out⟩
          · go_simp
            refine hK.out _ _ (hS _ HBE0.out) (fun hH2 => ?_)
            clear hK K
            try simp only [Act.put, List.setIfInBounds_toArray, List.set_cons_zero, List.set_cons_succ]
            refine Hd.one 3 3 (o := ?_) ?_ (by kernel_rfl) (fun K hK => ?_)
            rotate_left 1
            · simp only [List.getElem?_toArray, List.getElem?_cons_succ, List.getElem?_cons_zero]
              exact rfl
            refine step_join rfl (.tmp 118) (.tmp 120) 26 IT rfl tI iI (.int .i64 0) 1 8 hiI hI0 hI1 hI2 rfl (by decide) HE0.out (by simp [Act.eval]) (by simp [Act.eval]) HPE.out HONP.out (by unfold maxLen; omega) (by omega) HBE0.out.size ?_
            intro v18 w18 hown18 hg18
            have HOW18 := Lib.hid hown18
            have HB18 := Lib.hid (HBE0.out.grown hg18 HBE0.out.size (fun k hk => (HE0.out.lt k hk).1))
            have HQE18 := Lib.hid (World.ownsRow.kept HQE.out hg18 (HAPQ.out))
            clear hown18 hg18
            refine hK.out _ _ (hS _ HB18.out) (fun hH9 => ?_)
            clear hK K
            try simp only [Act.put, List.setIfInBounds_toArray, List.set_cons_zero, List.set_cons_succ]
            refine Hd.one 6 6 (o := ?_) ?_ (by kernel_rfl) (fun K hK => ?_)
            rotate_left 1
            · simp only [List.getElem?_toArray, List.getElem?_cons_succ, List.getElem?_cons_zero]
              exact rfl
            refine step_join rfl (.tmp 121) (.tmp 123) 26 IT rfl tI iI (.int .i64 0) 1 8 hiI hI0 hI1 hI2 rfl (by decide) HOW18.out (by simp [Act.eval]) (by simp [Act.eval]) HQE18.out HONQ.out (by unfold maxLen; omega) (by omega) HB18.out.size ?_
            intro v19 w19 hown19 hg19
            have HB19 := Lib.hid (HB18.out.grown hg19 HB18.out.size (fun k hk => (HOW18.out.lt k hk).1))
            obtain ⟨fo, fn, fc, rfl⟩ : ∃ a b c, v19 = .slice a b c := by obtain ⟨fo, fc, h, -⟩ := own_slice hown19; exact ⟨_, _, _, h⟩
            obtain ⟨hfn0, -⟩ := own_len hown19
            have hfn : fn = nt := by omega
            clear hfn0
            subst hfn
            have HOW19 := Lib.hid hown19
            clear hown19 hg19
            refine hK.out _ _ (hS _ HB19.out) (fun hH10 => ?_)
            clear hK K
            try simp only [Act.put, List.setIfInBounds_toArray, List.set_cons_zero, List.set_cons_succ]
            refine Hd.last 7 (o := ?_) ?_ (by kernel_rfl) (by kernel_rfl) (by kernel_rfl) (fun K hK => ?_)
            rotate_left 1
            · simp only [List.getElem?_toArray, List.getElem?_cons_succ, List.getElem?_cons_zero]
              exact rfl
            go_simp
            refine hK.out _ _ ?_
            clear hK K
            try simp only [Act.put, List.setIfInBounds_toArray, List.set_cons_zero, List.set_cons_succ]
            simp only [NoPanic]
            go_wp2_with fail
            go_meet
            exact ⟨fo, fc, rfl, rfl, rfl, HOW19.out, HB19.out⟩
        · go_simp
          refine hK.out _ _ (hS _ HBD.out) (fun hH1 => ?_)
          clear hK K
          try simp only [Act.put, List.setIfInBounds_toArray, List.set_cons_zero, List.set_cons_succ]
          refine Hd.one 0 0 (o := ?_) ?_ (by kernel_rfl) (fun K hK => ?_)
          rotate_left 1
          · simp only [List.getElem?_toArray, List.getElem?_cons_zero]
            exact rfl
          go_simp
          refine hK.out _ _ (hS _ HBE0.out) (fun hH12 => ?_)
          clear hK K
          try simp only [Act.put, List.setIfInBounds_toArray, List.set_cons_zero, List.set_cons_succ]
          refine Hd.one 3 3 (o := ?_) ?_ (by kernel_rfl) (fun K hK => ?_)
          rotate_left 1
          · simp only [List.getElem?_toArray, List.getElem?_cons_succ, List.getElem?_cons_zero]
            exact rfl
          refine step_join rfl (.tmp 118) (.tmp 120) 26 IT rfl tI iI (.int .i64 0) 1 8 hiI hI0 hI1 hI2 rfl (by decide) HE0.out (by simp [Act.eval]) (by simp [Act.eval]) HPE.out HONP.out (by unfold maxLen; omega) (by omega) HBE0.out.size ?_
          intro v18 w18 hown18 hg18
          have HOW18 := Lib.hid hown18
          have HB18 := Lib.hid (HBE0.out.grown hg18 HBE0.out.size (fun k hk => (HE0.out.lt k hk).1))
          have HQE18 := Lib.hid (World.ownsRow.kept HQE.out hg18 (HAPQ.out))
          clear hown18 hg18
          refine hK.out _ _ (hS _ HB18.out) (fun hH13 => ?_)
          clear hK K
          try simp only [Act.put, List.setIfInBounds_toArray, List.set_cons_zero, List.set_cons_succ]
          refine Hd.one 6 6 (o := ?_) ?_ (by kernel_rfl) (fun K hK => ?_)
          rotate_left 1
          · simp only [List.getElem?_toArray, List.getElem?_cons_succ, List.getElem?_cons_zero]
            exact rfl
          refine step_join rfl (.tmp 121) (.tmp 123) 26 IT rfl tI iI (.int .i64 0) 1 8 hiI hI0 hI1 hI2 rfl (by decide) HOW18.out (by simp [Act.eval]) (by simp [Act.eval]) HQE18.out HONQ.out (by unfold maxLen; omega) (by omega) HB18.out.size ?_
          intro v19 w19 hown19 hg19
          have HB19 := Lib.hid (HB18.out.grown hg19 HB18.out.size (fun k hk => (HOW18.out.lt k hk).1))
          obtain ⟨fo, fn, fc, rfl⟩ : ∃ a b c, v19 = .slice a b c := by obtain ⟨fo, fc, h, -⟩ := own_slice hown19; exact ⟨_, _, _, h⟩
          obtain ⟨hfn0, -⟩ := own_len hown19
          have hfn : fn = nt := by omega
          clear hfn0
          subst hfn
          have HOW19 := Lib.hid hown19
          clear hown19 hg19
          refine hK.out _ _ (hS _ HB19.out) (fun hH14 => ?_)
          clear hK K
          try simp only [Act.put, List.setIfInBounds_toArray, List.set_cons_zero, List.set_cons_succ]
          refine Hd.last 7 (o := ?_) ?_ (by kernel_rfl) (by kernel_rfl) (by kernel_rfl) (fun K hK => ?_)
          rotate_left 1
          · simp only [List.getElem?_toArray, List.getElem?_cons_succ, List.getElem?_cons_zero]
            exact rfl
          go_simp
          refine hK.out _ _ ?_
          clear hK K
          try simp only [Act.put, List.setIfInBounds_toArray, List.set_cons_zero, List.set_cons_succ]
          simp only [NoPanic]
          go_wp2_with fail
          go_meet
          exact ⟨fo, fc, rfl, rfl, rfl, HOW19.out, HB19.out⟩
      case rest =>
      obtain ⟨fo, fc, rfl, rfl, rfl, how, hbw⟩ := hcut
      have htd : [] ++ (tkR A').map intV ++ (tkR B').map intV = (tkR D).map intV := by rw [← HD.out]; unfold tkR; simp
      have hpq : 0 + pt + qt = (tkR D).length := by rw [HNT.out]; omega
      rw [htd, hpq] at how
      have HOWF := Lib.hid how
      have htq := own_below HTO7.out hbw
      have HTOF := Lib.hid htq
      have HXF := Lib.hid (HX7.out.below hbw HX7.out.lt)
      have hbwW := hb17w.trans (hbw.mono hb17w.size)
      obtain ⟨-, hfo⟩ := own_len how
      rw [HNT.out] at hfo
      clear htd hpq how htq x1 x2 p1 q1 HE0 HBE0 HBD HPE HQE HAPQ HONP HONQ hS HP7 HQ7 HTP7 HTQ7
      go_wp2_with fail
      go_loopw [126] (fun y wr => ∃ k : Nat, y = .int .i64 (k : Int) ∧ k ≤ nt ∧ Below wc.heap.size wc wr) (fun y _ => nt - (intOf y).toNat)
      case atStart => exact ⟨0, rfl, Nat.zero_le _, Below.refl _ _⟩
      case round =>
        obtain ⟨j, rfl, hj, hbx⟩ := hrel
        have x1 := (HXF.out.below hbx HXF.out.lt).c 1 _ rfl
        have x3 := (HXF.out.below hbx HXF.out.lt).c 3 _ rfl
        by_cases hjn : j < nt
        · have hdecj : decide ((j : Int) < (nt : Int)) = true := by simpa using hjn
          have hjw : IntKind.i64.wrap ((j : Int) + 1) = (j : Int) + 1 := IntWalk.i64_in _ (by omega)
          obtain ⟨gf, rfl, -, hgf, hgf2, -⟩ := hfo (by omega)
          obtain ⟨go_, rfl, -, hgo, hgo2, -⟩ := hko (by omega)
          obtain ⟨z, hz⟩ : ∃ z, (tkR D)[j]? = some z := ⟨_, List.getElem?_eq_getElem (by rw [HNT.out]; exact hjn)⟩
          have f1 := World.ownsRow.cells (own_below HOWF.out hbx) (g := gf) rfl j (.int .i64 z) (by rw [List.getElem?_map, hz]; rfl)
          have f2 := World.ownsRow.cells (own_below HTOF.out hbx) (g := go_) rfl j (.int .i64 z) (by rw [List.getElem?_map, hz]; rfl)
          have ha : ∀ (g k : Nat), (⟨g, 0, none⟩ : Addr).add k = ⟨g, k, none⟩ := fun g k => by unfold Addr.add; split <;> simp_all
          rw [ha] at f1 f2
          clear hz ha
          go_wp2_with fail
          exact ⟨⟨j + 1, by simp, by omega, hbx⟩, by simp only [intOf]; omega⟩
        · obtain rfl : j = nt := by omega
          have hdecj : decide ((j : Int) < (j : Int)) = false := by simp
          go_wp2_with fail
          go_ret
          exact ⟨rfl, hbwW.trans (hbx.mono hbwW.size)⟩
end Sc
end Go.Proofs.YtaaknnmnkgnbjaaDoor
