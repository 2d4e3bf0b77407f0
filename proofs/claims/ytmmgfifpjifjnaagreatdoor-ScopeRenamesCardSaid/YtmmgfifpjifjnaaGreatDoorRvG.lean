/- Chapter 13: what awake's method is; plain (wip/gen/gen_rvaw.py prints this). · Chapter 13: awake. -/
import Derived.Test.YtmmgfifpjifjnaaGreatDoorRvA
import Derived.Test.YtmmgfifpjifjnaaGreatDoorPaS
import Derived.Test.YtmmgfifpjifjnaaGreatDoorTrC
import Derived.KernelRfl
import Derived.Test.YtmmgfifpjifjnaaGreatDoorRvF
import Derived.Test.YtmmgfifpjifjnaaGreatDoorPaX6
set_option linter.unusedVariables false
set_option linter.unusedSimpArgs false
namespace Go.Proofs.YtmmgfifpjifjnaaGreatDoor
namespace Rv
open Bs Sm Tr
def K0 : List Kn := [⟨[120], 0, false⟩, ⟨[116], 1, true⟩]
def K1 : List Kn := [⟨[120], 0, false⟩, ⟨[116], 1, true⟩, ⟨[105], 2, false⟩]
def awX1 : Nd := .mk 5 [120] 0 [] [] 18
def awA1 : Nd := .mk 6 [116] 0 [awX1] [] 13
def awVI : Nd := .mk 5 [105] 0 [] [] 33
def awVA : Nd := .mk 5 [97] 0 [] [] 37
def awS1 : Nd := .mk 7 [43] 0 [awVI, awVA] [] 35
def awA2 : Nd := .mk 6 [116] 0 [awS1] [] 28
def awBL : Nd := .mk 9 [] 1 [awA2] [[105]] 22
def awI1 : Nd := .mk 1 [] 1 [] [] 47
def awS2 : Nd := .mk 7 [118, 97, 108, 117, 101, 58] 0 [awBL, awI1] [] 40
def awR1 : Nd := .mk 10 [] 0 [awS2] [] 21
def awM : Mt := ⟨[102, 111, 111, 58], [[120]], [[116]], 0, [awA1, awR1], 0⟩
def awS : Lx.Bytes := [102, 111, 111, 58, 32, 120, 32, 124, 32, 116, 32, 124, 32, 116, 32, 58, 61, 32, 120, 46, 32, 94, 91, 58, 105, 32, 124, 32, 116, 32, 58, 61, 32, 105, 32, 43, 32, 97, 93, 32, 118, 97, 108, 117, 101, 58, 32, 49]
theorem aw_pl : Pa.PlT (Pa.scanR awS).1 := by
 have h : (List.range (Pa.scanR awS).1.length).all (fun i => !Pa.isK (Pa.scanR awS).1 10 i && !Pa.isK (Pa.scanR awS).1 11 i && !Pa.isK (Pa.scanR awS).1 15 i && !Pa.opB (Pa.scanR awS).1 [60] i && !Pa.opB (Pa.scanR awS).1 [45] i) = true := by kernel_rfl
 refine ⟨by kernel_rfl, fun i hi => ?_⟩
 have := List.all_eq_true.1 h i (List.mem_range.2 hi)
 simpa [and_assoc] using this
theorem aw_parse : Pa.methP (Pa.scanR awS).1 (Pa.scanR awS).2 (Pa.fuelP (Pa.scanR awS).1) = .ok awM := by kernel_rfl
theorem fitX1 : fitsB awX1 false = true := by
 have h1 : shapeB awX1 = true := by rfl
 have h2 : kidsB awX1 = true := by rfl
 have h3 : holed awX1 = false := by rfl
 unfold fitsB
 rw [h1, h2, h3]
 show fitsK false false [] = true
 rw [fitsK_nil]
theorem fitA1 : fitsB awA1 false = true := by
 have h1 : shapeB awA1 = true := by rfl
 have h2 : kidsB awA1 = true := by rfl
 have h3 : holed awA1 = false := by rfl
 unfold fitsB
 rw [h1, h2, h3]
 show fitsK false false [awX1] = true
 rw [fitsK_cons, fitsK_nil, fitX1]
 rfl
theorem fitVI : fitsB awVI false = true := by
 have h1 : shapeB awVI = true := by rfl
 have h2 : kidsB awVI = true := by rfl
 have h3 : holed awVI = false := by rfl
 unfold fitsB
 rw [h1, h2, h3]
 show fitsK false false [] = true
 rw [fitsK_nil]
theorem fitVA : fitsB awVA false = true := by
 have h1 : shapeB awVA = true := by rfl
 have h2 : kidsB awVA = true := by rfl
 have h3 : holed awVA = false := by rfl
 unfold fitsB
 rw [h1, h2, h3]
 show fitsK false false [] = true
 rw [fitsK_nil]
theorem fitS1 : fitsB awS1 false = true := by
 have h1 : shapeB awS1 = true := by rfl
 have h2 : kidsB awS1 = true := by rfl
 have h3 : holed awS1 = false := by rfl
 unfold fitsB
 rw [h1, h2, h3]
 show fitsK false false [awVI, awVA] = true
 rw [fitsK_cons, fitsK_cons, fitsK_nil, fitVI, fitVA]
 rfl
theorem fitA2 : fitsB awA2 false = true := by
 have h1 : shapeB awA2 = true := by rfl
 have h2 : kidsB awA2 = true := by rfl
 have h3 : holed awA2 = false := by rfl
 unfold fitsB
 rw [h1, h2, h3]
 show fitsK false false [awS1] = true
 rw [fitsK_cons, fitsK_nil, fitS1]
 rfl
theorem fitBL : fitsB awBL false = true := by
 have h1 : shapeB awBL = true := by rfl
 have h2 : kidsB awBL = true := by rfl
 have h3 : holed awBL = false := by rfl
 unfold fitsB
 rw [h1, h2, h3]
 show fitsK false false [awA2] = true
 rw [fitsK_cons, fitsK_nil, fitA2]
 rfl
theorem fitI1 : fitsB awI1 false = true := by
 have h1 : shapeB awI1 = true := by rfl
 have h2 : kidsB awI1 = true := by rfl
 have h3 : holed awI1 = false := by rfl
 unfold fitsB
 rw [h1, h2, h3]
 show fitsK false false [] = true
 rw [fitsK_nil]
theorem fitS2 : fitsB awS2 false = true := by
 have h1 : shapeB awS2 = true := by rfl
 have h2 : kidsB awS2 = true := by rfl
 have h3 : holed awS2 = false := by rfl
 unfold fitsB
 rw [h1, h2, h3]
 show fitsK false false [awBL, awI1] = true
 rw [fitsK_cons, fitsK_cons, fitsK_nil, fitBL, fitI1]
 rfl
theorem fitR1 : fitsB awR1 false = true := by
 have h1 : shapeB awR1 = true := by rfl
 have h2 : kidsB awR1 = true := by rfl
 have h3 : holed awR1 = false := by rfl
 unfold fitsB
 rw [h1, h2, h3]
 show fitsK false false [awS2] = true
 rw [fitsK_cons, fitsK_nil, fitS2]
 rfl
theorem aw_all : allL [awA1, awR1] = [awA1, awX1, awR1, awS2, awBL, awA2, awS1, awVI, awVA, awI1] := by
 simp [allL_cons, allL_nil, awX1, awA1, awVI, awVA, awS1, awA2, awBL, awI1, awS2, awR1, Nd.kids]
theorem aw_cnt : cntL [awA1, awR1] = 10 := by
 simp [cntL_cons, cntL_nil, awX1, awA1, awVI, awVA, awS1, awA2, awBL, awI1, awS2, awR1, Nd.kids]
theorem aw_depth : depthL [awA1, awR1] = 6 := by
 simp [depthL_cons, depthL_nil, awX1, awA1, awVI, awVA, awS1, awA2, awBL, awI1, awS2, awR1, Nd.kids]
theorem aw_check : checkM awM = 0 := by
 have h1 : headB awM = true := by rfl
 have h2 : fitsK false false awM.body = true := by
  show fitsK false false [awA1, awR1] = true
  rw [fitsK_cons, fitsK_cons, fitsK_nil, fitA1, fitR1]
  rfl
 unfold checkM
 rw [h1, h2]
 simp only [Bool.true_eq_false, if_false]
 unfold sizedL
 show (if (allL [awA1, awR1]).any bigB then (2 : Int) else if (allL [awA1, awR1]).any overB then 9 else if 40 < depthL [awA1, awR1] then 10 else 0) = 0
 rw [aw_all, aw_depth]
 rfl
theorem oneX1 : oneR [[97]] [] true awX1 K0 2 = .ok (leafI 10 0, 2) := by
 unfold oneR
 rw [if_pos (by decide)]
 rfl
theorem allA1 : allR [[97]] [] true [awX1] K0 2 = .ok ([(leafI 10 0 : It)], 2) := by
 rw [allR_cons, oneX1]
 dsimp only
 rw [allR_nil]
theorem oneA1 : oneR [[97]] [] true awA1 K0 2 = .ok (.mk 12 [] 0 1 0 [leafI 10 0], 2) := by
 unfold oneR
 rw [if_neg (by decide), if_pos (by decide), show asgR [[97]] K0 awA1.name = some (12, 1) from rfl]
 rw [show awA1.kids = [awX1] from rfl, allA1]
 try rfl
theorem oneVI : oneR [[97]] [] true awVI K1 3 = .ok (leafI 10 2, 3) := by
 unfold oneR
 rw [if_pos (by decide)]
 rfl
theorem oneVA : oneR [[97]] [] true awVA K1 3 = .ok (leafI 11 0, 3) := by
 unfold oneR
 rw [if_pos (by decide)]
 rfl
theorem allS1 : allR [[97]] [] true [awVI, awVA] K1 3 = .ok ([(leafI 10 2 : It), (leafI 11 0 : It)], 3) := by
 rw [allR_cons, oneVI]
 dsimp only
 rw [allR_cons, oneVA]
 dsimp only
 rw [allR_nil]
theorem oneS1 : oneR [[97]] [] true awS1 K1 3 = .ok (.mk 14 [43] 0 0 0 [leafI 10 2, leafI 11 0], 3) := by
 unfold oneR
 rw [if_neg (by decide), if_neg (by decide), if_pos (by decide), if_neg (by decide), if_neg (by decide)]
 rw [show awS1.kids = [awVI, awVA] from rfl, allS1]
 try rfl
theorem allA2 : allR [[97]] [] true [awS1] K1 3 = .ok ([(.mk 14 [43] 0 0 0 [leafI 10 2, leafI 11 0] : It)], 3) := by
 rw [allR_cons, oneS1]
 dsimp only
 rw [allR_nil]
theorem oneA2 : oneR [[97]] [] true awA2 K1 3 = .ok (.mk 12 [] 0 1 0 [.mk 14 [43] 0 0 0 [leafI 10 2, leafI 11 0]], 3) := by
 unfold oneR
 rw [if_neg (by decide), if_pos (by decide), show asgR [[97]] K1 awA2.name = some (12, 1) from rfl]
 rw [show awA2.kids = [awS1] from rfl, allA2]
 try rfl
theorem allBL : allR [[97]] [] true [awA2] K1 3 = .ok ([(.mk 12 [] 0 1 0 [.mk 14 [43] 0 0 0 [leafI 10 2, leafI 11 0]] : It)], 3) := by
 rw [allR_cons, oneA2]
 dsimp only
 rw [allR_nil]
theorem oneBL : oneR [[97]] [] true awBL K0 2 = .ok (.mk 17 [] 1 2 1 [.mk 12 [] 0 1 0 [.mk 14 [43] 0 0 0 [leafI 10 2, leafI 11 0]]], 3) := by
 unfold oneR
 rw [if_neg (by decide), if_neg (by decide), if_neg (by decide), if_neg (by decide), if_pos (by decide)]
 rw [show declL [[97]] awBL.at_ (parN 0 (awBL.names.take awBL.num.toNat) ++ varN (awBL.names.drop awBL.num.toNat)) K0 2 = .ok (K1, 3) from rfl]
 dsimp only
 rw [show awBL.kids = [awA2] from rfl, allBL]
 try rfl
theorem oneI1 : oneR [[97]] [] true awI1 K0 3 = .ok (.mk 1 [] 1 0 0 [], 3) := by
 unfold oneR
 rw [if_neg (by decide), if_neg (by decide), if_neg (by decide), if_neg (by decide), if_neg (by decide), if_neg (by decide), if_pos (by decide)]
 rw [show awI1.kids = [] from rfl, allR_nil]
 try rfl
theorem allS2 : allR [[97]] [] true [awBL, awI1] K0 2 = .ok ([(.mk 17 [] 1 2 1 [.mk 12 [] 0 1 0 [.mk 14 [43] 0 0 0 [leafI 10 2, leafI 11 0]]] : It), (.mk 1 [] 1 0 0 [] : It)], 3) := by
 rw [allR_cons, oneBL]
 dsimp only
 rw [allR_cons, oneI1]
 dsimp only
 rw [allR_nil]
theorem oneS2 : oneR [[97]] [] true awS2 K0 2 = .ok (.mk 14 [118, 97, 108, 117, 101, 58] 0 0 0 [.mk 17 [] 1 2 1 [.mk 12 [] 0 1 0 [.mk 14 [43] 0 0 0 [leafI 10 2, leafI 11 0]]], .mk 1 [] 1 0 0 []], 3) := by
 unfold oneR
 rw [if_neg (by decide), if_neg (by decide), if_pos (by decide), if_neg (by decide), if_neg (by decide)]
 rw [show awS2.kids = [awBL, awI1] from rfl, allS2]
 try rfl
theorem allR1 : allR [[97]] [] true [awS2] K0 2 = .ok ([(.mk 14 [118, 97, 108, 117, 101, 58] 0 0 0 [.mk 17 [] 1 2 1 [.mk 12 [] 0 1 0 [.mk 14 [43] 0 0 0 [leafI 10 2, leafI 11 0]]], .mk 1 [] 1 0 0 []] : It)], 3) := by
 rw [allR_cons, oneS2]
 dsimp only
 rw [allR_nil]
theorem oneR1 : oneR [[97]] [] true awR1 K0 2 = .ok (.mk 18 [] 0 0 0 [.mk 14 [118, 97, 108, 117, 101, 58] 0 0 0 [.mk 17 [] 1 2 1 [.mk 12 [] 0 1 0 [.mk 14 [43] 0 0 0 [leafI 10 2, leafI 11 0]]], .mk 1 [] 1 0 0 []]], 3) := by
 unfold oneR
 rw [if_neg (by decide), if_neg (by decide), if_neg (by decide), if_neg (by decide), if_neg (by decide), if_pos (by decide)]
 rw [show awR1.kids = [awS2] from rfl, allR1]
 try rfl
theorem aw_res : resR [[97]] [] awM = .ok ⟨[102, 111, 111, 58], 1, 3, 0, [.mk 12 [] 0 1 0 [leafI 10 0], .mk 18 [] 0 0 0 [.mk 14 [118, 97, 108, 117, 101, 58] 0 0 0 [.mk 17 [] 1 2 1 [.mk 12 [] 0 1 0 [.mk 14 [43] 0 0 0 [leafI 10 2, leafI 11 0]]], .mk 1 [] 1 0 0 []]]]⟩ := by
 unfold resR
 rw [aw_check, if_neg (by decide), show declL [[97]] awM.at_ (parN 0 awM.params ++ varN awM.temps) [] 0 = .ok (K0, 2) from rfl]
 dsimp only
 rw [show awM.body = [awA1, awR1] from rfl]
 rw [allR_cons, oneA1]
 dsimp only
 rw [allR_cons, oneR1]
 dsimp only
 rw [allR_nil]
 try rfl
end Rv
end Go.Proofs.YtmmgfifpjifjnaaGreatDoor
namespace Go.Proofs.YtmmgfifpjifjnaaGreatDoor
open Go.RowKit
namespace Rv
open Bs Sm Tr
theorem aw_meth : Pa.methR awS = .ok awM := by
 unfold Pa.methR
 simp only [aw_parse, aw_check, if_true]
theorem aw_res2 : ∃ c y, resR [[97]] [] awM = .ok c ∧ c.args = 1 ∧ c.slots = 3 ∧ c.body.length = 2 ∧ c.body[0]? = some y ∧ y.kind = 12 ∧ y.slot = 1 := ⟨_, _, aw_res, rfl, rfl, rfl, rfl, rfl, rfl⟩
set_option maxRecDepth 100000 in
set_option maxHeartbeats 1600000 in
theorem awake_any (w : World) (herr : Lx.ErrVar w) :
  Calls Tryz.prog 6 #[] w (Back (.bool true) w) := by
 have HM := Pa.Method_any ⟨#[102, 111, 111, 58, 32, 120, 32, 124, 32, 116, 32, 124, 32, 116, 32, 58, 61, 32, 120, 46, 32, 94, 91, 58, 105, 32, 124, 32, 116, 32, 58, 61, 32, 105, 32, 43, 32, 97, 93, 32, 118, 97, 108, 117, 101, 58, 32, 49]⟩ w (by unfold Lx.PlS; decide) aw_pl (by decide) herr
 have hmr : Pa.methR (ByteArray.mk #[102, 111, 111, 58, 32, 120, 32, 124, 32, 116, 32, 124, 32, 116, 32, 58, 61, 32, 120, 46, 32, 94, 91, 58, 105, 32, 124, 32, 116, 32, 58, 61, 32, 105, 32, 43, 32, 97, 93, 32, 118, 97, 108, 117, 101, 58, 32, 49]).data.toList = .ok awM := aw_meth
 rw [hmr] at HM
 replace HM := Lib.hid HM
 clear herr hmr
 go_enter Tryz.func6, Tryz.ntmps6
 go_wp2_with fail
 refine HM.out.mono ?_; rintro e w1 ⟨hb1, pv, tv, bv, rfl, hmt⟩
 obtain ⟨pa, pc, rfl, -, -⟩ := hmt.params.form
 obtain ⟨ta, tc, rfl, -, -⟩ := hmt.temps.form
 obtain ⟨ba, bc, rfl, -, -⟩ := hmt.body.form
 have hV : mtV awM (.slice pa awM.params.length pc) (.slice ta awM.temps.length tc) (.slice ba awM.body.length bc) = .agg #[.string ⟨#[102, 111, 111, 58]⟩, .slice pa 1 pc, .slice ta 1 tc, .int .i64 0, .slice ba 2 bc, .int .i64 0] := rfl
 rw [hV]
 have hK5 := Blk.made (T := 33) (cs := #[.string ⟨#[]⟩, .slice none 0 0, .slice none 0 0, .int .i64 0, .slice none 0 0, .int .i64 0]) w1
 have hb5 := alloc_bel w1 (.cells #[.string ⟨#[]⟩, .slice none 0 0, .slice none 0 0, .int .i64 0, .slice none 0 0, .int .i64 0] 33)
 obtain ⟨W5, hal⟩ : ∃ W, w1.alloc (.cells #[.string ⟨#[]⟩, .slice none 0 0, .slice none 0 0, .int .i64 0, .slice none 0 0, .int .i64 0] 33) = W := ⟨_, rfl⟩
 rw [hal] at hK5 hb5
 obtain ⟨kz, hkz⟩ : ∃ k, w1.heap.size = k := ⟨_, rfl⟩
 rw [hkz] at hK5
 have hkw : W5.heap.size = kz + 1 := by rw [← hal, ← hkz]; simp
 have c0 := hK5.c 0 _ rfl
 have c1 := hK5.c 1 _ rfl
 have c2 := hK5.c 2 _ rfl
 have c3 := hK5.c 3 _ rfl
 have c4 := hK5.c 4 _ rfl
 have c5 := hK5.c 5 _ rfl
 have cf := hK5.fz
 have hbs := hb1.trans (hb5.mono hb1.size)
 have hw1 := hb1.size
 have hK6 := blk_set6 (v0 := .string ⟨#[102, 111, 111, 58]⟩) (v1 := .slice pa 1 pc) (v2 := .slice ta 1 tc) (v3 := .int .i64 0) (v4 := .slice ba 2 bc) (v5 := .int .i64 0) hK5
 have hB6 := bel_set6 (k := kz) (v0 := .string ⟨#[102, 111, 111, 58]⟩) (v1 := .slice pa 1 pc) (v2 := .slice ta 1 tc) (v3 := .int .i64 0) (v4 := .slice ba 2 bc) (v5 := .int .i64 0) hbs (by omega)
 have hm6 := ((hmt.mono (S' := fun j => j ≠ kz) (fun j hj hl => by omega)).bel hb5).kp (Pa.kp_set6 (k := kz) (v0 := .string ⟨#[102, 111, 111, 58]⟩) (v1 := .slice pa 1 pc) (v2 := .slice ta 1 tc) (v3 := .int .i64 0) (v4 := .slice ba 2 bc) (v5 := .int .i64 0) (by simp))
 obtain ⟨W6, hW6⟩ : ∃ W, (((((W5.setCell ⟨kz, 0, none⟩ (.string ⟨#[102, 111, 111, 58]⟩)).setCell ⟨kz, 1, none⟩ (.slice pa 1 pc)).setCell ⟨kz, 2, none⟩ (.slice ta 1 tc)).setCell ⟨kz, 3, none⟩ (.int .i64 0)).setCell ⟨kz, 4, none⟩ (.slice ba 2 bc)).setCell ⟨kz, 5, none⟩ (.int .i64 0) = W := ⟨_, rfl⟩
 rw [hW6] at hK6 hB6 hm6
 have HM6 := Lib.hid hm6
 have HB := Lib.hid hB6
 have HK := Lib.hid hK6
 clear hmt hbs hb1 hK6 hB6 hm6 HM hb5
 go_upto_region 4 with fail
 try rw [hW6]
 clear hW6 c0 c1 c2 c3 c4 c5 cf hal hK5 hV
 have hk7 := HK.out.alloc (.cells #[.string ⟨#[97]⟩] 9)
 have hb7 := alloc_bel W6 (.cells #[.string ⟨#[97]⟩] 9)
 have hbW := HB.out.trans (hb7.mono HB.out.size)
 have hks := Blk.made (T := 9) (cs := #[.string ⟨#[97]⟩]) W6
 have hrd : Rd (fun _ => True) strV (W6.alloc (.cells #[.string ⟨#[97]⟩] 9)) (.slice (some ⟨W6.heap.size, 0, none⟩) 1 1) [[97]] :=
  ⟨some ⟨W6.heap.size, 0, none⟩, 1, rfl, (by decide), (by unfold maxLen; omega), (fun h => by cases h), fun _ => ⟨W6.heap.size, 0, rfl, trivial, hks.lt, fun i x hx => by
   cases i with
   | zero => simp at hx; subst hx; exact hks.c 0 _ rfl
   | succ i => simp at hx⟩⟩
 have hn0 : Rd (fun _ => True) strV (W6.alloc (.cells #[.string ⟨#[97]⟩] 9)) (.slice none 0 0) [] := ⟨none, 0, rfl, (by decide), (by unfold maxLen; omega), (fun _ => rfl), fun h => by simp at h⟩
 have hm7 := HM6.out.bel hb7
 have hin : ∀ x ∈ allL awM.body, InI x := by
  show ∀ x ∈ allL [awA1, awR1], InI x
  rw [aw_all]
  intro x hx
  simp only [List.mem_cons, List.not_mem_nil, or_false] at hx
  unfold InI
  rcases hx with rfl | rfl | rfl | rfl | rfl | rfl | rfl | rfl | rfl | rfl <;> exact ⟨by decide, by decide⟩
 have HR := Resolve_any awM _ _ _ _ (.slice none 0 0) [[97]] [] _ (by show cntL [awA1, awR1] ≤ 100000; rw [aw_cnt]; omega) hin (hm7.mono (fun _ _ _ => trivial)) hrd hn0
 obtain ⟨c, y, hres, f1, f2, f3, f4, f5, f6⟩ := aw_res2
 rw [hres] at HR
 have hV : mtV awM (.slice pa awM.params.length pc) (.slice ta awM.temps.length tc) (.slice ba awM.body.length bc) = .agg #[.string ⟨#[102, 111, 111, 58]⟩, .slice pa 1 pc, .slice ta 1 tc, .int .i64 0, .slice ba 2 bc, .int .i64 0] := rfl
 rw [hV] at HR
 obtain ⟨W7, hal7⟩ : ∃ W, W6.alloc (.cells #[.string ⟨#[97]⟩] 9) = W := ⟨_, rfl⟩
 rw [hal7] at HR hbW
 replace HR := Lib.hid HR
 have HBW := Lib.hid hbW
 have d0 := HK.out.c 0 _ rfl
 have d1 := HK.out.c 1 _ rfl
 have d2 := HK.out.c 2 _ rfl
 have d3 := HK.out.c 3 _ rfl
 have d4 := HK.out.c 4 _ rfl
 have d5 := HK.out.c 5 _ rfl
 clear hk7 hb7 hbW hks hn0 hrd hm7 hin hV
 go_wp2_with fail
 try rw [hal7]
 clear hal7
 refine HR.out.mono ?_; rintro e w8 ⟨hb8, iv, rfl, hits⟩
 obtain ⟨ia, ic, rfl, -, -⟩ := hits.form
 unfold cdV
 rw [f1, f2, f3]
 rw [f3] at hits
 have hK9 := Blk.made (T := 37) (cs := #[.string ⟨#[]⟩, .int .i64 0, .int .i64 0, .int .i64 0, .slice none 0 0]) w8
 have hb9 := alloc_bel w8 (.cells #[.string ⟨#[]⟩, .int .i64 0, .int .i64 0, .int .i64 0, .slice none 0 0] 37)
 have hz9 : (w8.alloc (.cells #[.string ⟨#[]⟩, .int .i64 0, .int .i64 0, .int .i64 0, .slice none 0 0] 37)).heap.size = w8.heap.size + 1 := by simp
 obtain ⟨W9, hal9⟩ : ∃ W, w8.alloc (.cells #[.string ⟨#[]⟩, .int .i64 0, .int .i64 0, .int .i64 0, .slice none 0 0] 37) = W := ⟨_, rfl⟩
 rw [hal9] at hK9 hb9 hz9
 have g0 := hK9.c 0 _ rfl
 have g1 := hK9.c 1 _ rfl
 have g2 := hK9.c 2 _ rfl
 have g3 := hK9.c 3 _ rfl
 have g4 := hK9.c 4 _ rfl
 have gf := hK9.fz
 have hKA := blk_set5 (v0 := .string ⟨c.name.toArray⟩) (v1 := .int .i64 1) (v2 := .int .i64 3) (v3 := .int .i64 c.prim) (v4 := .slice ia 2 ic) hK9
 have hBA := bel_set5 (k := w8.heap.size) (v0 := .string ⟨c.name.toArray⟩) (v1 := .int .i64 1) (v2 := .int .i64 3) (v3 := .int .i64 c.prim) (v4 := .slice ia 2 ic) hb9 (Nat.le_refl _)
 obtain ⟨WA, hWA⟩ : ∃ W, ((((W9.setCell ⟨w8.heap.size, 0, none⟩ (.string ⟨c.name.toArray⟩)).setCell ⟨w8.heap.size, 1, none⟩ (.int .i64 1)).setCell ⟨w8.heap.size, 2, none⟩ (.int .i64 3)).setCell ⟨w8.heap.size, 3, none⟩ (.int .i64 c.prim)).setCell ⟨w8.heap.size, 4, none⟩ (.slice ia 2 ic) = W := ⟨_, rfl⟩
 rw [hWA] at hKA hBA
 have hitA := hits.bel hBA
 obtain ⟨bb, off, y', ka, kc, hia, hy, hbl, -, hrow, -⟩ := hitA.nth 0 (by omega)
 rw [f4] at hy
 cases hy
 subst hia
 obtain ⟨i0, -, -, i3, -, -⟩ := hrow
 rw [f5] at i0
 rw [f6] at i3
 simp only [Nat.zero_mul, Nat.add_zero] at i0 i3
 have HKA := Lib.hid hKA
 have HBA := Lib.hid (HBW.out.trans ((hb8.trans (hBA.mono hb8.size)).mono HBW.out.size))
 clear hits hitA hb9 hb8 hBA hK9 hKA HR hres f1 f2 f3 f4 f5 f6 d0 d1 d2 d3 d4 d5
 go_upto_region 5 with fail
 try rw [hWA]
 clear hal9 hWA g0 g1 g2 g3 g4 gf
 have q1 := HKA.out.c 1 _ rfl
 have q2 := HKA.out.c 2 _ rfl
 have q4 := HKA.out.c 4 _ rfl
 go_wp2_with fail
 go_ret
 exact ⟨rfl, HBA.out⟩
end Rv
end Go.Proofs.YtmmgfifpjifjnaaGreatDoor
