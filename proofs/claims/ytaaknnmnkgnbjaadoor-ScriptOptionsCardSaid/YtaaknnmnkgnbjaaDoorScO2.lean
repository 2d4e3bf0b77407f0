/- ScriptOptions, the walk, 2: Own. -/
import Derived.Test.YtaaknnmnkgnbjaaDoorScO1
set_option linter.unusedVariables false
namespace Go.Proofs.YtaaknnmnkgnbjaaDoor
open Go.RowKit
namespace Sc
open Bs Sm
set_option maxRecDepth 100000 in
set_option maxHeartbeats 3200000 in
theorem own_any {B : Nat} (v : Value) (cs : List Cmd) (w : World) (hl : Few B w v cs) (hm : Mild cs) :
    Calls Tryd.prog 8 #[v] w (fun e w' => Below w.heap.size w w' ∧ ∃ v', e = .returned v' ∧ Cmds CmT w.heap.size v' cs w') := by
  obtain ⟨i0, hi0, hz0, hz1, hz2⟩ := info_parts (show (Tryd.prog.info? CmT).map (fun i => (i.zero, i.size, i.bytes)) = some (some (.agg #[.int .i64 0, .int .i64 0, .int .i64 0, .slice none 0 0, .slice none 0 0]), 5, 72) by kernel_rfl)
  have tsl : Tryd.prog.underlying 31 = some (.slice CmT) := by kernel_rfl
  obtain ⟨iI, hiI, hI0, hI1, hI2⟩ := info_parts (show (Tryd.prog.info? IT).map (fun i => (i.zero, i.size, i.bytes)) = some (some (.int .i64 0), 1, 8) by kernel_rfl)
  have tI : Tryd.prog.underlying 26 = some (.slice IT) := by kernel_rfl
  obtain ⟨cl, hcl, hown, hrd⟩ := hl
  obtain ⟨ao, cap, rfl, hao⟩ := own_slice hown
  obtain ⟨n, hnn⟩ : ∃ n, cl.length = n := ⟨_, rfl⟩
  have hn100 : n ≤ 100 := by have h := hm.1; rw [← hcl, List.length_map, hnn] at h; exact h
  have HOW := Lib.hid hown
  rw [hnn] at hao ⊢
  have HCL := Lib.hid hcl
  have HRD := Lib.hid hrd
  have HN := Lib.hid hnn
  have HM := Lib.hid hm
  clear hcl hown hrd hnn hm
  go_enter Tryd.func8, Tryd.ntmps8
  go_wp2_with fail
  go_loopw [3, 8] (fun v y wr => ∃ k : Nat, y = .int .i64 (k : Int) ∧ k ≤ n ∧ Hid (Cmds CmT w.heap.size v (cs.take k) wr) ∧ Below w.heap.size w wr) (fun _ y _ => n - (intOf y).toNat)
  case atStart => exact ⟨0, rfl, Nat.zero_le _, Lib.hid ⟨[], by rw [List.take_zero]; rfl, World.ownsRow_nil _ _ _ _, fun x hx => by cases hx⟩, Below.refl _ _⟩
  case round =>
    obtain ⟨k, rfl, hk, hq, hbr⟩ := hrel
    by_cases hkn : k < n
    · have hdec : decide ((k : Int) < (n : Int)) = true := by simpa using hkn
      have hkw : IntKind.i64.wrap ((k : Int) + 1) = (k : Int) + 1 := IntWalk.i64_in _ (by omega)
      obtain ⟨gb, rfl, -, hgb, hgc, -⟩ := hao (by omega)
      obtain ⟨x, hx⟩ : ∃ x, cl[k]? = some x := ⟨_, List.getElem?_eq_getElem (by rw [HN.out]; exact hkn)⟩
      have hcx : cs[k]? = some x.1 := by rw [← HCL.out, List.getElem?_map, hx]; rfl
      obtain ⟨c0, c1, c2, c3, c4⟩ := cmd_at (own_below HOW.out hbr) k x hx
      have hfx := HRD.out x (List.mem_of_getElem? hx)
      have htk := take_snoc hcx
      have hml := HM.out.2 x.1 (List.mem_of_getElem? hcx)
      obtain ⟨c, lv, bv⟩ := x
      dsimp only at c0 c1 c2 c3 c4 hfx htk hml
      have hLV := hfx.1.below hbr
      have hBV := hfx.2.below hbr
      obtain ⟨lo, lc, rfl, -, -, -, -⟩ := id hLV
      obtain ⟨bo, bc, rfl, -, -, -, -⟩ := id hBV
      obtain ⟨ln, hln⟩ : ∃ z, c.list.length = z := ⟨_, rfl⟩
      obtain ⟨bn, hbn⟩ : ∃ z, c.bytes.length = z := ⟨_, rfl⟩
      obtain ⟨ck, hck⟩ : ∃ z : Int, c.kind = z := ⟨_, rfl⟩
      obtain ⟨cn, hcn⟩ : ∃ z : Int, c.n = z := ⟨_, rfl⟩
      obtain ⟨ca, hca⟩ : ∃ z : Int, c.at_ = z := ⟨_, rfl⟩
      rw [hck] at c0
      rw [hcn] at c1
      rw [hca] at c2
      rw [hln] at c3 hLV hml
      rw [hbn] at c4 hBV hml
      have HLN := Lib.hid hln
      have HBN := Lib.hid hbn
      have HCV : Hid (∀ lv bv, cellsM (c, lv, bv) = [.int .i64 ck, .int .i64 cn, .int .i64 ca, lv, bv]) := Lib.hid (fun lv bv => by unfold cellsM; rw [hck, hcn, hca])
      obtain ⟨cl', hcl', hownC, hfl'⟩ := hq.out
      have hcll : cl'.length = k := by
        have h := congrArg List.length hcl'
        rw [List.length_map, List.length_take] at h
        have h2 : cs.length = n := by rw [← HCL.out, List.length_map, HN.out]
        omega
      have HCL2 := Lib.hid hcl'
      have HTK := Lib.hid htk
      have HOC := Lib.hid hownC
      have HFL := Lib.hid hfl'
      have HCLL := Lib.hid hcll
      have hgb' := Nat.lt_of_lt_of_le hgb hbr.size
      clear hx hcx htk hfx hln hbn hck hcn hca hq hcl' hownC hfl' hcll
      go_upto_region 5 with fail
      have hX5 : Below wr.heap.size wr (wr.alloc (.cells #[.int .i64 ck, .int .i64 cn, .int .i64 ca, .slice lo ln lc, .slice bo bn bc] RcT)) := (Below.refl _ _).alloc (Nat.le_refl _) _
      have hk5 := Blk.made (T := RcT) (cs := #[.int .i64 ck, .int .i64 cn, .int .i64 ca, .slice lo ln lc, .slice bo bn bc]) wr
      obtain ⟨W5, hW5⟩ : ∃ W, wr.alloc (.cells #[.int .i64 ck, .int .i64 cn, .int .i64 ca, .slice lo ln lc, .slice bo bn bc] RcT) = W := ⟨_, rfl⟩
      rw [hW5] at hX5 hk5 ⊢
      obtain ⟨KB, hKB⟩ : ∃ b, wr.heap.size = b := ⟨_, rfl⟩
      have hbr5 := hbr.trans (hX5.mono hbr.size)
      have HOC5 := Lib.hid (own_below HOC.out hX5)
      have HFL5 : Hid (∀ y ∈ cl', Ints w.heap.size y.2.1 y.1.list W5 ∧ Byts w.heap.size y.2.2 y.1.bytes W5) := Lib.hid (fun y hy => ⟨own_below (HFL.out y hy).1 hX5, own_below (HFL.out y hy).2 hX5⟩)
      have HLV := Lib.hid (hLV.below hX5)
      have HBV := Lib.hid (hBV.below hX5)
      rw [hKB] at hk5 ⊢
      have HK5 := Lib.hid hk5
      have hkl := hk5.lt
      have hS : ∀ v, Below W5.heap.size W5 v → (v.cell? ⟨KB, 0, none⟩ = some (.int .i64 ck) ∧ v.cell? ⟨KB, 1, none⟩ = some (.int .i64 cn) ∧ v.cell? ⟨KB, 2, none⟩ = some (.int .i64 ca) ∧ v.cell? ⟨KB, 3, none⟩ = some (.slice lo ln lc) ∧ v.cell? ⟨KB, 4, none⟩ = some (.slice bo bn bc)) := fun v hv =>
        have h := HK5.out.below hv hkl
        ⟨h.c 0 _ rfl, h.c 1 _ rfl, h.c 2 _ rfl, h.c 3 _ rfl, h.c 4 _ rfl⟩
      have hbE : Below W5.heap.size W5 (W5.drew.alloc (.cells #[] IT)) := (Below.refl _ W5).drew.alloc (Nat.le_refl _) _
      have hE : (W5.drew.alloc (.cells #[] IT)).ownsRow W5.heap.size IT 1 (.slice (some ⟨W5.heap.size, 0, none⟩) 0 0) 0 [] := World.ownsRow_made (e := IT) (size := 1) W5.drew #[] 0 (Nat.le_refl _) (by unfold maxLen; omega) rfl
      have HE := Lib.hid hE
      have HBE := Lib.hid hbE
      clear hW5 hKB hX5 hk5 HOC HFL hLV hBV c0 c1 c2 c3 c4 hE hbE
      refine wp_region_noPanic ?_
      refine Hd.start (fun v => v.cell? ⟨KB, 0, none⟩ = some (.int .i64 ck) ∧ v.cell? ⟨KB, 1, none⟩ = some (.int .i64 cn) ∧ v.cell? ⟨KB, 2, none⟩ = some (.int .i64 ca) ∧ v.cell? ⟨KB, 3, none⟩ = some (.slice lo ln lc) ∧ v.cell? ⟨KB, 4, none⟩ = some (.slice bo bn bc)) (by kernel_rfl) (hS _ (Below.refl _ W5).drew) (fun hH0 => ?_)
      refine Hd.take 0 16 (oi := ?_) (v := ?_) ?_ (by kernel_rfl) (fun _ _ _ h => h) hH0 ?_ ?_ ?_
      rotate_left 2
      · simp only [List.getElem?_toArray, List.getElem?_cons_zero]
        exact rfl
      · rfl
      · intro w hSw
        (try dsimp only at hSw)
        go_simp
        try with_reducible rfl
      try simp only [Act.put, List.setIfInBounds_toArray, List.set_cons_zero, List.set_cons_succ]
      refine Hd.take 1 2 (oi := ?_) (v := ?_) ?_ (by kernel_rfl) (fun _ _ _ h => h) hH0 ?_ ?_ ?_
      rotate_left 2
      · simp only [List.getElem?_toArray, List.getElem?_cons_succ, List.getElem?_cons_zero]
        exact rfl
      · rfl
      · intro w hSw
        (try dsimp only at hSw)
        go_simp
        try with_reducible rfl
      try simp only [Act.put, List.setIfInBounds_toArray, List.set_cons_zero, List.set_cons_succ]
      refine Hd.take 2 14 (oi := ?_) (v := ?_) ?_ (by kernel_rfl) (fun _ _ _ h => h) hH0 ?_ ?_ ?_
      rotate_left 2
      · simp only [List.getElem?_toArray, List.getElem?_cons_succ, List.getElem?_cons_zero]
        exact rfl
      · rfl
      · intro w hSw
        (try dsimp only at hSw)
        go_simp
        try with_reducible rfl
      try simp only [Act.put, List.setIfInBounds_toArray, List.set_cons_zero, List.set_cons_succ]
      refine Hd.take 3 4 (oi := ?_) (v := ?_) ?_ (by kernel_rfl) (fun _ _ _ h => h) hH0 ?_ ?_ ?_
      rotate_left 2
      · simp only [List.getElem?_toArray, List.getElem?_cons_succ, List.getElem?_cons_zero]
        exact rfl
      · rfl
      · intro w hSw
        (try dsimp only at hSw)
        go_simp
        try with_reducible rfl
      try simp only [Act.put, List.setIfInBounds_toArray, List.set_cons_zero, List.set_cons_succ]
      refine Hd.take 4 14 (oi := ?_) (v := ?_) ?_ (by kernel_rfl) (fun _ _ _ h => h) hH0 ?_ ?_ ?_
      rotate_left 2
      · simp only [List.getElem?_toArray, List.getElem?_cons_succ, List.getElem?_cons_zero]
        exact rfl
      · rfl
      · intro w hSw
        (try dsimp only at hSw)
        go_simp
        try with_reducible rfl
      try simp only [Act.put, List.setIfInBounds_toArray, List.set_cons_zero, List.set_cons_succ]
      refine Hd.take 5 6 (oi := ?_) (v := ?_) ?_ (by kernel_rfl) (fun _ _ _ h => h) hH0 ?_ ?_ ?_
      rotate_left 2
      · simp only [List.getElem?_toArray, List.getElem?_cons_succ, List.getElem?_cons_zero]
        exact rfl
      · rfl
      · intro w hSw
        (try dsimp only at hSw)
        go_simp
        try with_reducible rfl
      try simp only [Act.put, List.setIfInBounds_toArray, List.set_cons_zero, List.set_cons_succ]
      refine Hd.take 6 14 (oi := ?_) (v := ?_) ?_ (by kernel_rfl) (fun _ _ _ h => h) hH0 ?_ ?_ ?_
      rotate_left 2
      · simp only [List.getElem?_toArray, List.getElem?_cons_succ, List.getElem?_cons_zero]
        exact rfl
      · rfl
      · intro w hSw
        (try dsimp only at hSw)
        go_simp
        try with_reducible rfl
      try simp only [Act.put, List.setIfInBounds_toArray, List.set_cons_zero, List.set_cons_succ]
      refine Hd.take 8 9 (oi := ?_) (v := ?_) ?_ (by kernel_rfl) (fun _ _ _ h => h) hH0 ?_ ?_ ?_
      rotate_left 2
      · simp only [List.getElem?_toArray, List.getElem?_cons_succ, List.getElem?_cons_zero]
        exact rfl
      · rfl
      · intro w hSw
        (try dsimp only at hSw)
        go_simp
        try with_reducible rfl
      try simp only [Act.put, List.setIfInBounds_toArray, List.set_cons_zero, List.set_cons_succ]
      refine Hd.take 9 10 (oi := ?_) (v := ?_) ?_ (by kernel_rfl) (fun _ _ _ h => h) hH0 ?_ ?_ ?_
      rotate_left 2
      · simp only [List.getElem?_toArray, List.getElem?_cons_succ, List.getElem?_cons_zero]
        exact rfl
      · rfl
      · intro w hSw
        (try dsimp only at hSw)
        go_simp
        try with_reducible rfl
      try simp only [Act.put, List.setIfInBounds_toArray, List.set_cons_zero, List.set_cons_succ]
      refine Hd.take 11 12 (oi := ?_) (v := ?_) ?_ (by kernel_rfl) (fun _ _ _ h => h) hH0 ?_ ?_ ?_
      rotate_left 2
      · simp only [List.getElem?_toArray, List.getElem?_cons_succ, List.getElem?_cons_zero]
        exact rfl
      · rfl
      · intro w hSw
        (try dsimp only at hSw)
        go_simp
        try with_reducible rfl
      try simp only [Act.put, List.setIfInBounds_toArray, List.set_cons_zero, List.set_cons_succ]
      refine Hd.take 12 13 (oi := ?_) (v := ?_) ?_ (by kernel_rfl) (fun _ _ _ h => h) hH0 ?_ ?_ ?_
      rotate_left 2
      · simp only [List.getElem?_toArray, List.getElem?_cons_succ, List.getElem?_cons_zero]
        exact rfl
      · rfl
      · intro w hSw
        (try dsimp only at hSw)
        go_simp
        try with_reducible rfl
      try simp only [Act.put, List.setIfInBounds_toArray, List.set_cons_zero, List.set_cons_succ]
      refine Hd.one 7 7 (o := ?_) ?_ (by kernel_rfl) (fun K hK => ?_)
      rotate_left 1
      · simp only [List.getElem?_toArray, List.getElem?_cons_succ, List.getElem?_cons_zero]
        exact rfl
      go_simp
      refine hK.out _ _ (hS _ HBE.out) (fun hH1 => ?_)
      clear hK K
      try simp only [Act.put, List.setIfInBounds_toArray, List.set_cons_zero, List.set_cons_succ]
      refine Hd.one 10 10 (o := ?_) ?_ (by kernel_rfl) (fun K hK => ?_)
      rotate_left 1
      · simp only [List.getElem?_toArray, List.getElem?_cons_succ, List.getElem?_cons_zero]
        exact rfl
      refine step_rd (f := intV) (fun _ => rfl) rfl (.tmp 19) (.tmp 21) 26 IT rfl tI iI (.int .i64 0) 8 hiI hI0 hI1 hI2 rfl (by exact HE.out) (by simp [Act.eval]) (by simp [Act.eval]) (HLV.out.below HBE.out) (by unfold maxLen; have := HLN.out; omega) (by have := HLN.out; omega) (by exact HBE.out.size) ?_
      intro v6 w6 hown6 hg6
      have hb6 := HBE.out.grown hg6 HBE.out.size (fun k hk => (HE.out.lt k hk).1)
      have hI6 : Ints W5.heap.size v6 c.list w6 := by unfold Ints; simpa using hown6
      obtain ⟨lo2, ln2, lc2, rfl⟩ : ∃ a b c, v6 = .slice a b c := by obtain ⟨fo, fc, h, -⟩ := own_slice hI6; exact ⟨_, _, _, h⟩
      have HI6 := Lib.hid hI6
      have HB6 := Lib.hid hb6
      clear hown6 hg6 hI6 hb6
      refine hK.out _ _ (hS _ HB6.out) (fun hH2 => ?_)
      clear hK K
      try simp only [Act.put, List.setIfInBounds_toArray, List.set_cons_zero, List.set_cons_succ]
      refine Hd.one 13 13 (o := ?_) ?_ (by kernel_rfl) (fun K hK => ?_)
      rotate_left 1
      · simp only [List.getElem?_toArray, List.getElem?_cons_succ, List.getElem?_cons_zero]
        exact rfl
      go_simp
      refine (copy_any _ c.bytes _ (HBV.out.below HB6.out) (by have := HBN.out; omega)).mono ?_; rintro e w7 ⟨hb7, vb, rfl, hB7⟩
      obtain ⟨bo2, bn2, bc2, rfl⟩ : ∃ a b c, vb = .slice a b c := by obtain ⟨fo, fc, h, -⟩ := own_slice hB7; exact ⟨_, _, _, h⟩
      have HI7 := Lib.hid (own_below HI6.out hb7)
      have HB67 := Lib.hid (own_mono hB7 HB6.out.size)
      have HB7 := Lib.hid (HB6.out.trans (hb7.mono HB6.out.size))
      clear hb7 hB7 HI6
      go_wp2_with fail
      refine hK.out _ _ (hS _ HB7.out) (fun hH3 => ?_)
      clear hK K
      try simp only [Act.put, List.setIfInBounds_toArray, List.set_cons_zero, List.set_cons_succ]
      refine Hd.take 14 15 (oi := ?_) (v := ?_) ?_ (by kernel_rfl) (fun _ _ _ h => h) hH3 ?_ ?_ ?_
      rotate_left 2
      · simp only [List.getElem?_toArray, List.getElem?_cons_succ, List.getElem?_cons_zero]
        exact rfl
      · rfl
      · intro w hSw
        (try dsimp only at hSw)
        go_simp
        try with_reducible rfl
      try simp only [Act.put, List.setIfInBounds_toArray, List.set_cons_zero, List.set_cons_succ]
      have hX8 : Below w7.heap.size w7 (w7.alloc (.cells #[.int .i64 ck, .int .i64 cn, .int .i64 ca, .slice lo2 ln2 lc2, .slice bo2 bn2 bc2] CmT)) := (Below.refl _ _).alloc (Nat.le_refl _) _
      have HX8 := Lib.hid hX8
      have HB8 := Lib.hid (HB7.out.trans (hX8.mono HB7.out.size))
      clear hX8
      refine Hd.one 15 15 (o := ?_) ?_ (by kernel_rfl) (fun K hK => ?_)
      rotate_left 1
      · simp only [List.getElem?_toArray, List.getElem?_cons_succ, List.getElem?_cons_zero]
        exact rfl
      go_simp
      refine hK.out _ _ (hS _ HB8.out) (fun hH4 => ?_)
      clear hK K
      try simp only [Act.put, List.setIfInBounds_toArray, List.set_cons_zero, List.set_cons_succ]
      have hOC8 := own_below HOC5.out HB8.out
      have HOC8 := Lib.hid hOC8
      have hW8 : w.heap.size ≤ (w7.alloc (.cells #[.int .i64 ck, .int .i64 cn, .int .i64 ca, .slice lo2 ln2 lc2, .slice bo2 bn2 bc2] CmT)).heap.size := Nat.le_trans hbr5.size HB8.out.size
      have HW8 := Lib.hid hW8
      have hcl1 : cl'.length + 1 ≤ 1000 := by have := HCLL.out; omega
      have HCL1 := Lib.hid hcl1
      clear hOC8 hW8 hcl1
      refine Hd.one 16 16 (o := ?_) ?_ (by kernel_rfl) (fun K hK => ?_)
      rotate_left 1
      · simp only [List.getElem?_toArray, List.getElem?_cons_succ, List.getElem?_cons_zero]
        exact rfl
      refine step_append_own rfl (.tmp 12) (.tmp 27) 31 rfl w.heap.size CmT i0 (.agg #[.int .i64 0, .int .i64 0, .int .i64 0, .slice none 0 0, .slice none 0 0]) 5 72 tsl hi0 hz0 hz1 hz2 rfl (by decide) _ cl'.length (flatM cl') (by simp [Act.eval]) HOC8.out ⟨w7.heap.size, 0, none⟩ 1 1 [.int .i64 ck, .int .i64 cn, .int .i64 ca, .slice lo2 ln2 lc2, .slice bo2 bn2 bc2] (by simp [Act.eval]) rfl (cells5 w7 CmT _ _ _ _ _) (fun u hu => by simp at hu; rcases hu with rfl | rfl | rfl | rfl | rfl <;> rfl) (by unfold maxLen; have := HCL1.out; omega) (by have := HCL1.out; omega) HW8.out ?_
      intro v9 w9 hown9 hg9
      have hk9 := blk_grown (HK5.out.below HB8.out hkl) hg9 HOC8.out (by decide)
      have hb9 := (hbr5.trans (HB8.out.mono hbr5.size)).grown hg9 HW8.out (fun k hk => (HOC8.out.lt k hk).1)
      have HO9 : Hid (Cmds CmT w.heap.size v9 (cs.take (k + 1)) w9) := Lib.hid ⟨cl' ++ [(c, .slice lo2 ln2 lc2, .slice bo2 bn2 bc2)], by rw [HTK.out, List.map_append, HCL2.out]; rfl, by rw [flatM_snoc, HCV.out, List.length_append]; exact hown9, fun y hy => by
        rcases List.mem_append.1 hy with hy | hy
        · exact ⟨own_grown (own_below (HFL5.out y hy).1 HB8.out) hg9 HOC8.out (by decide), own_grown (own_below (HFL5.out y hy).2 HB8.out) hg9 HOC8.out (by decide)⟩
        · obtain rfl := List.mem_singleton.1 hy
          exact ⟨own_mono (own_grown (own_below HI7.out HX8.out) hg9 HOC8.out (by decide)) hbr5.size, own_mono (own_grown (own_below HB67.out HX8.out) hg9 HOC8.out (by decide)) hbr5.size⟩⟩
      have HB9 := Lib.hid hb9
      have HK9 := Lib.hid hk9
      clear hown9 hg9 hk9 hb9
      refine hK.out _ _ ⟨HK9.out.c 0 _ rfl, HK9.out.c 1 _ rfl, HK9.out.c 2 _ rfl, HK9.out.c 3 _ rfl, HK9.out.c 4 _ rfl⟩ (fun hH5 => ?_)
      clear hK K
      try simp only [Act.put, List.setIfInBounds_toArray, List.set_cons_zero, List.set_cons_succ]
      refine Hd.last 17 (o := ?_) ?_ (by kernel_rfl) (by kernel_rfl) (by kernel_rfl) (fun K hK => ?_)
      rotate_left 1
      · simp only [List.getElem?_toArray, List.getElem?_cons_succ, List.getElem?_cons_zero]
        exact rfl
      go_simp
      refine hK.out _ _ ?_
      clear hK K
      try simp only [Act.put, List.setIfInBounds_toArray, List.set_cons_zero, List.set_cons_succ]
      simp only [NoPanic]
      clear hH0 hH1 hH2 hH3 hH4 hH5 hS
      go_wp2_with fail
      exact ⟨⟨k + 1, by simp, by omega, HO9, HB9.out⟩, by simp only [intOf]; omega⟩
    · obtain rfl : k = n := by omega
      have hdec : decide ((k : Int) < (k : Int)) = false := by simp
      have hall : cs.take k = cs := List.take_of_length_le (by rw [← HCL.out, List.length_map, HN.out]; exact Nat.le_refl _)
      rw [hall] at hq
      have HQ := hq
      clear hq hall
      go_wp2_with fail
      go_ret
      exact ⟨hbr, _, rfl, HQ.out⟩
end Sc
end Go.Proofs.YtaaknnmnkgnbjaaDoor
