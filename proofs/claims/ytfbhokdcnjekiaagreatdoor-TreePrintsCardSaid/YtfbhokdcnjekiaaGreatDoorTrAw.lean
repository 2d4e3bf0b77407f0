/- The law package's awake: one method that is printed. -/
import Derived.Test.YtfbhokdcnjekiaaGreatDoorTrBb
import Derived.Test.YtfbhokdcnjekiaaGreatDoorTrOwn
set_option linter.unusedVariables false
namespace Go.Proofs.YtfbhokdcnjekiaaGreatDoor
open Go.RowKit
namespace Tr
open Bs Sm
def awX : Nd := .mk 5 [120] 0 [] [] 0
def awI : Nd := .mk 1 [] 1 [] [] 0
def awS : Nd := .mk 7 [43] 0 [awX, awI] [] 0
def awR : Nd := .mk 10 [] 0 [awS] [] 0
def awM : Mt := ⟨[102, 111, 111, 58], [[120]], [], 0, [awR], 0⟩
/-- Nodes that were laid as a literal. -/
theorem tree_lit {T b : Nat} {S : Nat → Prop} {w : World} (vl : VL) (h : Blk T b (flatN vl).toArray w) (hS : S b) (hl : vl.length ≤ maxLen) (hk : ∀ x ∈ vl, Tree S w x.2.1 x.1.kids) (hn : ∀ x ∈ vl, Rd S strV w x.2.2 x.1.names) : Tree S w (.slice (some ⟨b, 0, none⟩) vl.length vl.length) (vl.map (·.1)) := by
 refine .mk vl _ vl.length (Nat.le_refl _) hl (fun h => by cases h) (fun _ => ⟨b, 0, rfl, hS, h.lt, fun i x hx => ?_⟩) hk hn
 have H : ∀ j u, (ndC x.1 x.2.1 x.2.2)[j]? = some u → w.cell? ⟨b, 0 + i * 6 + j, none⟩ = some u := fun j u hj => by
  have := flatN_get vl i x j u hx hj
  rw [Nat.zero_add]
  exact h.c _ _ (by rw [List.getElem?_toArray]; exact this)
 exact ⟨H 0 _ rfl, H 1 _ rfl, H 2 _ rfl, H 3 _ rfl, H 4 _ rfl, H 5 _ rfl⟩
theorem rd_nil (S : Nat → Prop) (w : World) : Rd S strV w (.slice none 0 0) [] := Rd.none_ rfl _ _ (fun _ => rfl) (by unfold maxLen; omega)
theorem aw_itoa : Lib.itoa 1 = [49] := by
 unfold Lib.itoa
 rw [if_neg (by omega)]
 show Lib.decDigits 1 = _
 rw [Lib.decDigits, dif_pos (by omega)]
 rfl
theorem aw_all : allL [awR] = [awR, awS, awX, awI] := by
 simp [allL_cons, allL_nil, awR, awS, awX, awI, Nd.kids]
theorem aw_cnt : cntL [awR] = 4 := by
 simp [cntL_cons, cntL_nil, awR, awS, awX, awI, Nd.kids]
theorem aw_depth : depthL [awR] = 3 := by
 simp [depthL_cons, depthL_nil, awR, awS, awX, awI, Nd.kids]
theorem aw_check : checkM awM = 0 := by
 have h1 : headB awM = true := by rfl
 have h2 : fitsK false false awM.body = true := by
  have f1 : fitsB awX false = true := by
   have : shapeB awX = true := by rfl
   have k : kidsB awX = true := by rfl
   have hh : holed awX = false := by rfl
   unfold fitsB
   rw [this, k, hh]
   show fitsK false _ [] = true
   rw [fitsK_nil]
  have f2 : fitsB awI false = true := by
   have : shapeB awI = true := by rfl
   have k : kidsB awI = true := by rfl
   have hh : holed awI = false := by rfl
   unfold fitsB
   rw [this, k, hh]
   show fitsK false _ [] = true
   rw [fitsK_nil]
  have f3 : fitsB awS false = true := by
   have : shapeB awS = true := by rfl
   have k : kidsB awS = true := by rfl
   have hh : holed awS = false := by rfl
   unfold fitsB
   rw [this, k, hh]
   show fitsK false false [awX, awI] = true
   rw [fitsK_cons, fitsK_cons, fitsK_nil, f1, f2]
   rfl
  have f4 : fitsB awR false = true := by
   have : shapeB awR = true := by rfl
   have k : kidsB awR = true := by rfl
   have hh : holed awR = false := by rfl
   unfold fitsB
   rw [this, k, hh]
   show fitsK false false [awS] = true
   rw [fitsK_cons, fitsK_nil, f3]
   rfl
  show fitsK false false [awR] = true
  rw [fitsK_cons, fitsK_nil, f4]
  rfl
 unfold checkM
 rw [h1, h2]
 simp only [Bool.true_eq_false, if_false]
 unfold sizedL
 show (if (allL [awR]).any bigB then (2 : Int) else if (allL [awR]).any overB then 9 else if 40 < depthL [awR] then 10 else 0) = 0
 rw [aw_all, aw_depth]
 rfl
theorem aw_mild : Mild awM.body := by
 refine ⟨?_, ?_⟩
 · show cntL [awR] ≤ 201
   rw [aw_cnt]; omega
 · show ∀ x ∈ allL [awR], Fair x
   rw [aw_all]
   intro x hx
   simp only [List.mem_cons, List.not_mem_nil, or_false] at hx
   rcases hx with rfl | rfl | rfl | rfl
   · exact ⟨by decide, by decide, by decide, by decide⟩
   · exact ⟨by decide, by decide, by decide, by decide⟩
   · exact ⟨by decide, by decide, by decide, by decide⟩
   · exact ⟨by decide, by decide, by decide, by decide⟩
theorem aw_print : printT awM = [102, 111, 111, 58, 32, 120, 32, 94, 120, 32, 43, 32, 49] := by
 have t1 : txt awX = ([120], []) := by rw [txt_eq]; rfl
 have t2 : txt awI = ([49], []) := by rw [txt_eq]; show (Lib.itoa 1, ([] : Bytes)) = _; rw [aw_itoa]
 have r2 : rankS [43] = 2 := by rfl
 have t3 : (txt awS).1 = [120, 32, 43, 32, 49] := by
  rw [(msg_text (x := awS) rfl).1]
  unfold sendT msgT
  show leastT (if rankS [43] = 3 then 3 else 2) (kid awS 0) (txt awX).1 ++ ([32] ++ (if rankS [43] = 3 then [43] else if rankS [43] = 2 then [43] ++ ([32] ++ leastT 3 (kid awS 1) (txt awI).1) else _)) = _
  rw [r2, t1, t2]
  rfl
 have t4 : (txt awR).1 = 94 :: [120, 32, 43, 32, 49] := by
  rw [txt_eq]
  show [94] ++ (txt awS).1 = _
  rw [t3]
  rfl
 have r3 : rankS [102, 111, 111, 58] = 1 := by rfl
 have p3 : partsL [102, 111, 111, 58] = [[102, 111, 111]] := by
  rw [parts_kw _ (by rfl)]
  rfl
 unfold printT
 show (if rankS [102, 111, 111, 58] = 3 then _ else if rankS [102, 111, 111, 58] = 2 then _ else spreadT [102, 111, 111, 58] (fun i => ([[120]] : List Bytes).getD i []) (partsL [102, 111, 111, 58]).length) ++ ((if (0 : Int) = 0 then [] else _) ++ ((if ([] : List Bytes) = [] then [] else _) ++ ((if [awR] = [] then [] else [32]) ++ statsT txt [awR]))) = _
 rw [r3]
 unfold spreadT statsT
 rw [p3]
 simp only [List.length_cons, List.length_nil]
 rw [joinF_succ, joinF_zero, joinF_succ, joinF_zero]
 show _ ++ (_ ++ (_ ++ (_ ++ ([] ++ ([] ++ (txt awR).1))))) = _
 rw [t4]
 rfl
theorem awake_mem (w : World) (k0 k1 k2 k3 k4 : Nat) (h0 : k0 = w.heap.size) (h1 : k1 = w.heap.size + 1) (h2 : k2 = w.heap.size + 1 + 1) (h3 : k3 = w.heap.size + 1 + 1 + 1) (h4 : k4 = w.heap.size + 1 + 1 + 1 + 1) (W : World)
  (hW : ((((((w.alloc (.cells #[.int .i64 5, .string ⟨#[120]⟩, .int .i64 0, .slice none 0 0, .slice none 0 0, .int .i64 0] 50)).alloc (.cells #[.string ⟨#[120]⟩] 9)).alloc
   (.cells #[.int .i64 5, .string ⟨#[120]⟩, .int .i64 0, .slice none 0 0, .slice none 0 0, .int .i64 0, .int .i64 1, .string ⟨#[]⟩, .int .i64 1, .slice none 0 0, .slice none 0 0, .int .i64 0] 50)).alloc
   (.cells #[.int .i64 7, .string ⟨#[43]⟩, .int .i64 0, .slice (some ⟨k2, 0, none⟩) 2 2, .slice none 0 0, .int .i64 0] 50)).alloc
   (.cells #[.int .i64 10, .string ⟨#[]⟩, .int .i64 0, .slice (some ⟨k3, 0, none⟩) 1 1, .slice none 0 0, .int .i64 0] 50)).alloc
   (.cells #[.string ⟨#[102, 111, 111, 58]⟩, .slice (some ⟨k1, 0, none⟩) 1 1, .slice none 0 0, .int .i64 0, .slice (some ⟨k4, 0, none⟩) 1 1, .int .i64 0] 30)) = W) :
  Below w.heap.size w W ∧ MtAt (fun _ => True) W awM (.slice (some ⟨k1, 0, none⟩) 1 1) (.slice none 0 0) (.slice (some ⟨k4, 0, none⟩) 1 1) ∧
  Blk 30 (k4 + 1) #[.string ⟨#[102, 111, 111, 58]⟩, .slice (some ⟨k1, 0, none⟩) 1 1, .slice none 0 0, .int .i64 0, .slice (some ⟨k4, 0, none⟩) 1 1, .int .i64 0] W := by
 subst h0 h1 h2 h3 h4
 have b1 : Blk 9 (w.heap.size + 1) #[.string ⟨#[120]⟩] W := by
  rw [← hW]
  refine Blk.alloc (Blk.alloc (Blk.alloc (Blk.alloc ?_ _) _) _) _
  have := Blk.made (T := 9) (cs := #[.string ⟨#[120]⟩]) (w.alloc (.cells #[.int .i64 5, .string ⟨#[120]⟩, .int .i64 0, .slice none 0 0, .slice none 0 0, .int .i64 0] 50))
  simpa using this
 have b2 : Blk 50 (w.heap.size + 1 + 1) (flatN [(awX, .slice none 0 0, .slice none 0 0), (awI, .slice none 0 0, .slice none 0 0)]).toArray W := by
  rw [← hW]
  refine Blk.alloc (Blk.alloc (Blk.alloc ?_ _) _) _
  have := Blk.made (T := 50) (cs := #[.int .i64 5, .string ⟨#[120]⟩, .int .i64 0, .slice none 0 0, .slice none 0 0, .int .i64 0, .int .i64 1, .string ⟨#[]⟩, .int .i64 1, .slice none 0 0, .slice none 0 0, .int .i64 0]) ((w.alloc (.cells #[.int .i64 5, .string ⟨#[120]⟩, .int .i64 0, .slice none 0 0, .slice none 0 0, .int .i64 0] 50)).alloc (.cells #[.string ⟨#[120]⟩] 9))
  have e : ((w.alloc (.cells #[.int .i64 5, .string ⟨#[120]⟩, .int .i64 0, .slice none 0 0, .slice none 0 0, .int .i64 0] 50)).alloc (.cells #[.string ⟨#[120]⟩] 9)).heap.size = w.heap.size + 1 + 1 := by simp
  rw [e] at this
  exact this
 have b3 : Blk 50 (w.heap.size + 1 + 1 + 1) (flatN [(awS, .slice (some ⟨w.heap.size + 1 + 1, 0, none⟩) 2 2, .slice none 0 0)]).toArray W := by
  rw [← hW]
  refine Blk.alloc (Blk.alloc ?_ _) _
  have := Blk.made (T := 50) (cs := #[.int .i64 7, .string ⟨#[43]⟩, .int .i64 0, .slice (some ⟨w.heap.size + 1 + 1, 0, none⟩) 2 2, .slice none 0 0, .int .i64 0]) (((w.alloc (.cells #[.int .i64 5, .string ⟨#[120]⟩, .int .i64 0, .slice none 0 0, .slice none 0 0, .int .i64 0] 50)).alloc (.cells #[.string ⟨#[120]⟩] 9)).alloc (.cells #[.int .i64 5, .string ⟨#[120]⟩, .int .i64 0, .slice none 0 0, .slice none 0 0, .int .i64 0, .int .i64 1, .string ⟨#[]⟩, .int .i64 1, .slice none 0 0, .slice none 0 0, .int .i64 0] 50))
  have e : (((w.alloc (.cells #[.int .i64 5, .string ⟨#[120]⟩, .int .i64 0, .slice none 0 0, .slice none 0 0, .int .i64 0] 50)).alloc (.cells #[.string ⟨#[120]⟩] 9)).alloc (.cells #[.int .i64 5, .string ⟨#[120]⟩, .int .i64 0, .slice none 0 0, .slice none 0 0, .int .i64 0, .int .i64 1, .string ⟨#[]⟩, .int .i64 1, .slice none 0 0, .slice none 0 0, .int .i64 0] 50)).heap.size = w.heap.size + 1 + 1 + 1 := by simp
  rw [e] at this
  exact this
 generalize hw3 : (((w.alloc (.cells #[.int .i64 5, .string ⟨#[120]⟩, .int .i64 0, .slice none 0 0, .slice none 0 0, .int .i64 0] 50)).alloc (.cells #[.string ⟨#[120]⟩] 9)).alloc
   (.cells #[.int .i64 5, .string ⟨#[120]⟩, .int .i64 0, .slice none 0 0, .slice none 0 0, .int .i64 0, .int .i64 1, .string ⟨#[]⟩, .int .i64 1, .slice none 0 0, .slice none 0 0, .int .i64 0] 50)) = w3 at hW
 have hs3 : w3.heap.size = w.heap.size + 1 + 1 + 1 := by rw [← hw3]; simp
 have hb3 : Below w.heap.size w w3 := by rw [← hw3]; exact (((Below.refl _ w).alloc (Nat.le_refl _) _).alloc (by simp) _).alloc (by simp; omega) _
 have b4 : Blk 50 (w.heap.size + 1 + 1 + 1 + 1) (flatN [(awR, .slice (some ⟨w.heap.size + 1 + 1 + 1, 0, none⟩) 1 1, .slice none 0 0)]).toArray W := by
  rw [← hW]
  refine Blk.alloc ?_ _
  have := Blk.made (T := 50) (cs := #[.int .i64 10, .string ⟨#[]⟩, .int .i64 0, .slice (some ⟨w.heap.size + 1 + 1 + 1, 0, none⟩) 1 1, .slice none 0 0, .int .i64 0]) (w3.alloc (.cells #[.int .i64 7, .string ⟨#[43]⟩, .int .i64 0, .slice (some ⟨w.heap.size + 1 + 1, 0, none⟩) 2 2, .slice none 0 0, .int .i64 0] 50))
  have e : (w3.alloc (.cells #[.int .i64 7, .string ⟨#[43]⟩, .int .i64 0, .slice (some ⟨w.heap.size + 1 + 1, 0, none⟩) 2 2, .slice none 0 0, .int .i64 0] 50)).heap.size = w.heap.size + 1 + 1 + 1 + 1 := by simp [hs3]
  rw [e] at this
  exact this
 have b5 : Blk 30 (w.heap.size + 1 + 1 + 1 + 1 + 1) #[.string ⟨#[102, 111, 111, 58]⟩, .slice (some ⟨w.heap.size + 1, 0, none⟩) 1 1, .slice none 0 0, .int .i64 0, .slice (some ⟨w.heap.size + 1 + 1 + 1 + 1, 0, none⟩) 1 1, .int .i64 0] W := by
  rw [← hW]
  have := Blk.made (T := 30) (cs := #[.string ⟨#[102, 111, 111, 58]⟩, .slice (some ⟨w.heap.size + 1, 0, none⟩) 1 1, .slice none 0 0, .int .i64 0, .slice (some ⟨w.heap.size + 1 + 1 + 1 + 1, 0, none⟩) 1 1, .int .i64 0]) ((w3.alloc (.cells #[.int .i64 7, .string ⟨#[43]⟩, .int .i64 0, .slice (some ⟨w.heap.size + 1 + 1, 0, none⟩) 2 2, .slice none 0 0, .int .i64 0] 50)).alloc (.cells #[.int .i64 10, .string ⟨#[]⟩, .int .i64 0, .slice (some ⟨w.heap.size + 1 + 1 + 1, 0, none⟩) 1 1, .slice none 0 0, .int .i64 0] 50))
  have e : ((w3.alloc (.cells #[.int .i64 7, .string ⟨#[43]⟩, .int .i64 0, .slice (some ⟨w.heap.size + 1 + 1, 0, none⟩) 2 2, .slice none 0 0, .int .i64 0] 50)).alloc (.cells #[.int .i64 10, .string ⟨#[]⟩, .int .i64 0, .slice (some ⟨w.heap.size + 1 + 1 + 1, 0, none⟩) 1 1, .slice none 0 0, .int .i64 0] 50)).heap.size = w.heap.size + 1 + 1 + 1 + 1 + 1 := by simp [hs3]
  rw [e] at this
  exact this
 have hb : Below w.heap.size w W := by
  rw [← hW]
  exact ((hb3.alloc hb3.size _).alloc (by simp; omega) _).alloc (by simp; omega) _
 have m2 : (2 : Nat) ≤ maxLen := by unfold maxLen; omega
 have m1 : (1 : Nat) ≤ maxLen := by unfold maxLen; omega
 have t2 : Tree (fun _ => True) W (.slice (some ⟨w.heap.size + 1 + 1, 0, none⟩) 2 2) [awX, awI] := tree_lit [(awX, .slice none 0 0, .slice none 0 0), (awI, .slice none 0 0, .slice none 0 0)] b2 trivial m2
  (fun x hx => by
   simp only [List.mem_cons, List.not_mem_nil, or_false] at hx
   rcases hx with rfl | rfl <;> exact Tree.nil _ _)
  (fun x hx => by
   simp only [List.mem_cons, List.not_mem_nil, or_false] at hx
   rcases hx with rfl | rfl <;> exact rd_nil _ _)
 have t3 : Tree (fun _ => True) W (.slice (some ⟨w.heap.size + 1 + 1 + 1, 0, none⟩) 1 1) [awS] := tree_lit [(awS, .slice (some ⟨w.heap.size + 1 + 1, 0, none⟩) 2 2, .slice none 0 0)] b3 trivial m1
  (fun x hx => by
   obtain rfl := List.mem_singleton.1 hx
   exact t2)
  (fun x hx => by
   obtain rfl := List.mem_singleton.1 hx
   exact rd_nil _ _)
 have t4 : Tree (fun _ => True) W (.slice (some ⟨w.heap.size + 1 + 1 + 1 + 1, 0, none⟩) 1 1) [awR] := tree_lit [(awR, .slice (some ⟨w.heap.size + 1 + 1 + 1, 0, none⟩) 1 1, .slice none 0 0)] b4 trivial m1
  (fun x hx => by
   obtain rfl := List.mem_singleton.1 hx
   exact t3)
  (fun x hx => by
   obtain rfl := List.mem_singleton.1 hx
   exact rd_nil _ _)
 refine ⟨hb, ⟨⟨_, 1, rfl, by decide, m1, (fun h => by cases h), fun _ => ⟨_, 0, rfl, trivial, b1.lt, fun i x hx => ?_⟩⟩, rd_nil _ _, t4⟩, b5⟩
 have hi := (List.getElem?_eq_some_iff.1 hx).1
 have hi0 : i = 0 := by
  have : awM.params.length = 1 := rfl
  omega
 subst hi0
 have : x = [120] := by simpa [awM] using hx.symm
 subst this
 exact b1.c 0 _ rfl
set_option maxRecDepth 100000 in
set_option maxHeartbeats 1600000 in
theorem awake_any (w : World) (hpow : Pow10 w) (hmax : MaxV w) (herr : ErrVar w) :
  Calls Tryz.prog 7 #[] w (Back (.bool true) w) := by
 have HPOW := Lib.hid hpow
 have HMAX := Lib.hid hmax
 have HERR := Lib.hid herr
 clear hpow hmax herr
 go_enter Tryz.func7, Tryz.ntmps7
 go_upto_region 3 with fail
 generalize hW : World.alloc _ _ = W
 obtain ⟨hb, hm, hk⟩ := awake_mem w _ _ _ _ _ rfl rfl rfl rfl rfl W hW
 clear hW
 have c0 := hk.c 0 _ rfl
 have c1 := hk.c 1 _ rfl
 have c2 := hk.c 2 _ rfl
 have c3 := hk.c 3 _ rfl
 have c4 := hk.c 4 _ rfl
 have c5 := hk.c 5 _ rfl
 have HP := Lib.hid (Print_any awM _ _ _ aw_mild (by decide) W hm (HPOW.out.below hb) (HMAX.out.below hb) (HERR.out.below hb))
 rw [aw_check, aw_print, if_pos rfl] at HP
 have HB := Lib.hid hb
 have HM := Lib.hid hm
 have HK := Lib.hid hk
 clear hb hm hk
 go_wp2_with fail
 refine HP.out.mono ?_; rintro e w2 ⟨hb2, rfl⟩
 have hk2 := HK.out.below hb2 HK.out.lt
 have HB2 := Lib.hid (HB.out.trans (hb2.mono HB.out.size))
 have HM2 := Lib.hid (HM.out.bel hb2)
 have HK2 := Lib.hid hk2
 clear hb2 c0 c1 c2 c3 c4 c5
 have c0 := hk2.c 0 _ rfl
 have c1 := hk2.c 1 _ rfl
 have c2 := hk2.c 2 _ rfl
 have c3 := hk2.c 3 _ rfl
 have c4 := hk2.c 4 _ rfl
 have c5 := hk2.c 5 _ rfl
 have HD := Lib.hid (Depth_any (m := awM) (pv := .slice (some ⟨w.heap.size + 1, 0, none⟩) 1 1) (tv := .slice none 0 0) (by show cntL [awR] ≤ _; rw [aw_cnt]; omega) w2 HM2.out.body)
 have ed : depthL awM.body = 3 := aw_depth
 rw [ed] at HD
 clear hk2 ed
 go_wp2_with fail
 refine HD.out.mono ?_; rintro e w3 ⟨rfl, hb3⟩
 have hk3 := HK2.out.below hb3 HK2.out.lt
 have HB3 := Lib.hid (HB2.out.trans (hb3.mono HB2.out.size))
 have HM3 := Lib.hid (HM2.out.bel hb3)
 clear hb3 c0 c1 c2 c3 c4 c5
 have c0 := hk3.c 0 _ rfl
 have c1 := hk3.c 1 _ rfl
 have c2 := hk3.c 2 _ rfl
 have c3 := hk3.c 3 _ rfl
 have c4 := hk3.c 4 _ rfl
 have c5 := hk3.c 5 _ rfl
 have HC := Lib.hid (Count_any (m := awM) (by show cntL [awR] ≤ _; rw [aw_cnt]; omega) w3 HM3.out)
 have ed : cntL awM.body = 4 := aw_cnt
 rw [ed] at HC
 clear hk3 ed
 go_wp2_with fail
 refine HC.out.mono ?_; rintro e w4 ⟨rfl, hb4⟩
 have HB4 := Lib.hid (HB3.out.trans (hb4.mono HB3.out.size))
 clear hb4
 go_wp2_with fail
 go_ret
 exact ⟨rfl, HB4.out⟩
end Tr
end Go.Proofs.YtfbhokdcnjekiaaGreatDoor
