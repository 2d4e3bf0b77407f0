/- Package parse: what is made of the tokens of "foo: x ^x + 1". Plain; no program. -/
import Derived.Test.YtbdgoimbddlcoaaGreatDoorPaS
import Derived.Test.YtbdgoimbddlcoaaGreatDoorTrBb
import Derived.KernelRfl
set_option linter.unusedVariables false
namespace Go.Proofs.YtbdgoimbddlcoaaGreatDoor
namespace Pa
open Bs Sm Lx Tr
def awX : Nd := .mk 5 [120] 0 [] [] 8
def awI : Nd := .mk 1 [] 1 [] [] 12
def awS : Nd := .mk 7 [43] 0 [awX, awI] [] 10
def awR : Nd := .mk 10 [] 0 [awS] [] 7
def awM : Mt := ⟨[102, 111, 111, 58], [[120]], [], 0, [awR], 0⟩
def awL : List Pt := [⟨2, [102, 111, 111, 58], 0, 0⟩, ⟨1, [120], 0, 5⟩, ⟨8, [], 0, 7⟩, ⟨1, [120], 0, 8⟩, ⟨6, [43], 0, 10⟩, ⟨3, [], 1, 12⟩, ⟨0, [], 0, 13⟩]
def awS_ : Lx.Bytes := [102, 111, 111, 58, 32, 120, 32, 94, 120, 32, 43, 32, 49]
theorem aw_scan : scanR awS_ = (awL, 0) := by kernel_rfl
theorem aw_parse : methP awL 0 (fuelP awL) = .ok awM := by kernel_rfl
theorem aw_itoa : Lib.itoa 1 = [49] := by
 unfold Lib.itoa
 rw [if_neg (by omega)]
 show Lib.decDigits 1 = _
 rw [Lib.decDigits, dif_pos (by omega)]
 rfl
theorem aw_all : allL [awR] = [awR, awS, awX, awI] := by
 simp [allL_cons, allL_nil, awR, awS, awX, awI, Nd.kids]
theorem aw_cnt : cntL [awR] = 4 := by
 simp [cntL_cons, cntL_nil, awR, awS, awX, awI, Nd.kids]
theorem aw_depth : depthL [awR] = 3 := by
 simp [depthL_cons, depthL_nil, awR, awS, awX, awI, Nd.kids]
theorem aw_check : checkM awM = 0 := by
 have h1 : headB awM = true := by rfl
 have h2 : fitsK false false awM.body = true := by
  have f1 : fitsB awX false = true := by
   have : shapeB awX = true := by rfl
   have k : kidsB awX = true := by rfl
   have hh : holed awX = false := by rfl
   unfold fitsB
   rw [this, k, hh]
   show fitsK false _ [] = true
   rw [fitsK_nil]
  have f2 : fitsB awI false = true := by
   have : shapeB awI = true := by rfl
   have k : kidsB awI = true := by rfl
   have hh : holed awI = false := by rfl
   unfold fitsB
   rw [this, k, hh]
   show fitsK false _ [] = true
   rw [fitsK_nil]
  have f3 : fitsB awS false = true := by
   have : shapeB awS = true := by rfl
   have k : kidsB awS = true := by rfl
   have hh : holed awS = false := by rfl
   unfold fitsB
   rw [this, k, hh]
   show fitsK false false [awX, awI] = true
   rw [fitsK_cons, fitsK_cons, fitsK_nil, f1, f2]
   rfl
  have f4 : fitsB awR false = true := by
   have : shapeB awR = true := by rfl
   have k : kidsB awR = true := by rfl
   have hh : holed awR = false := by rfl
   unfold fitsB
   rw [this, k, hh]
   show fitsK false false [awS] = true
   rw [fitsK_cons, fitsK_nil, f3]
   rfl
  show fitsK false false [awR] = true
  rw [fitsK_cons, fitsK_nil, f4]
  rfl
 unfold checkM
 rw [h1, h2]
 simp only [Bool.true_eq_false, if_false]
 unfold sizedL
 show (if (allL [awR]).any bigB then (2 : Int) else if (allL [awR]).any overB then 9 else if 40 < depthL [awR] then 10 else 0) = 0
 rw [aw_all, aw_depth]
 rfl
theorem aw_mild : Mild awM.body := by
 refine ⟨?_, ?_⟩
 · show cntL [awR] ≤ 201
   rw [aw_cnt]; omega
 · show ∀ x ∈ allL [awR], Tr.Fair x
   rw [aw_all]
   intro x hx
   simp only [List.mem_cons, List.not_mem_nil, or_false] at hx
   rcases hx with rfl | rfl | rfl | rfl
   · exact ⟨by decide, by decide, by decide, by decide⟩
   · exact ⟨by decide, by decide, by decide, by decide⟩
   · exact ⟨by decide, by decide, by decide, by decide⟩
   · exact ⟨by decide, by decide, by decide, by decide⟩
theorem aw_print : printT awM = [102, 111, 111, 58, 32, 120, 32, 94, 120, 32, 43, 32, 49] := by
 have t1 : txt awX = ([120], []) := by rw [txt_eq]; rfl
 have t2 : txt awI = ([49], []) := by rw [txt_eq]; show (Lib.itoa 1, ([] : Lx.Bytes)) = _; rw [aw_itoa]
 have r2 : rankS [43] = 2 := by rfl
 have t3 : (txt awS).1 = [120, 32, 43, 32, 49] := by
  rw [(msg_text (x := awS) rfl).1]
  unfold sendT msgT
  show leastT (if rankS [43] = 3 then 3 else 2) (kid awS 0) (txt awX).1 ++ ([32] ++ (if rankS [43] = 3 then [43] else if rankS [43] = 2 then [43] ++ ([32] ++ leastT 3 (kid awS 1) (txt awI).1) else _)) = _
  rw [r2, t1, t2]
  rfl
 have t4 : (txt awR).1 = 94 :: [120, 32, 43, 32, 49] := by
  rw [txt_eq]
  show [94] ++ (txt awS).1 = _
  rw [t3]
  rfl
 have r3 : rankS [102, 111, 111, 58] = 1 := by rfl
 have p3 : partsL [102, 111, 111, 58] = [[102, 111, 111]] := by
  rw [parts_kw _ (by rfl)]
  rfl
 unfold printT
 show (if rankS [102, 111, 111, 58] = 3 then _ else if rankS [102, 111, 111, 58] = 2 then _ else spreadT [102, 111, 111, 58] (fun i => ([[120]] : List Lx.Bytes).getD i []) (partsL [102, 111, 111, 58]).length) ++ ((if (0 : Int) = 0 then [] else _) ++ ((if ([] : List Lx.Bytes) = [] then [] else _) ++ ((if [awR] = [] then [] else [32]) ++ statsT txt [awR]))) = _
 rw [r3]
 unfold spreadT statsT
 rw [p3]
 simp only [List.length_cons, List.length_nil]
 rw [joinF_succ, joinF_zero, joinF_succ, joinF_zero]
 show _ ++ (_ ++ (_ ++ (_ ++ ([] ++ ([] ++ (txt awR).1))))) = _
 rw [t4]
 rfl
theorem aw_meth : methR awS_ = .ok awM := by
 unfold methR
 rw [aw_scan]
 simp only [aw_parse, aw_check, if_true]
end Pa
end Go.Proofs.YtbdgoimbddlcoaaGreatDoor
