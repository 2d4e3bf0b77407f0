/- The law's told. · The reference's text of a method, part 8: Print (printed by gen_trpi.py, hdx.py). · The law's Told; the law TreePrints (printed by gen_trl4.py, hdx.py). -/
import Derived.Test.YtfbhokdcnjekiaaGreatDoorTrNds
import Derived.Test.YtfbhokdcnjekiaaGreatDoorTrPx
import Derived.Test.YtfbhokdcnjekiaaGreatDoorTrBb
import Derived.Test.YtfbhokdcnjekiaaGreatDoorTrSs
import Derived.Test.YtfbhokdcnjekiaaGreatDoorTrL0
import Derived.Test.YtfbhokdcnjekiaaGreatDoorTrR5
set_option linter.unusedVariables false
namespace Go.Proofs.YtfbhokdcnjekiaaGreatDoor
open Go.RowKit
namespace Tr
open Bs Sm
def ToldOk (l : List Nd) : Prop := ∀ (v : Value) (w : World), Tree (fun _ => True) w v l →
  Calls Tryz.prog 54 #[v] w (fun e w' => Below w.heap.size w w' ∧ ∃ v', e = .returned v' ∧ OwnT 45 w.heap.size (fun b => w.heap.size ≤ b) w' v' l)
set_option maxRecDepth 100000 in
set_option maxHeartbeats 6400000 in
theorem told_step (l : List Nd) (hmild : Mild l) (IH : ∀ y ∈ l, ToldOk y.kids) : ToldOk l := by
  intro v w hl
  obtain ⟨i0, hi0, hz0, hz1, hz2⟩ := info_parts (show (Tryz.prog.info? 45).map (fun i => (i.zero, i.size, i.bytes)) = some (some (.agg #[.int .i64 0, .string ⟨#[]⟩, .int .i64 0, .slice none 0 0, .slice none 0 0, .int .i64 0]), 6, 88) by kernel_rfl)
  have tsl : Tryz.prog.underlying 23 = some (.slice 45) := by kernel_rfl
  obtain ⟨iI, hiI, hI0, hI1, hI2⟩ := info_parts (show (Tryz.prog.info? 9).map (fun i => (i.zero, i.size, i.bytes)) = some (some (.string ⟨#[]⟩), 1, 16) by kernel_rfl)
  have tI : Tryz.prog.underlying 22 = some (.slice 9) := by kernel_rfl
  obtain ⟨a, c, rfl, hc, hm⟩ := hl.form
  obtain ⟨n, hn⟩ : ∃ n, l.length = n := ⟨_, rfl⟩
  have HN := Lib.hid hn
  have hn200 : n ≤ 201 := by rw [← hn]; exact hmild.len
  rw [hn] at hl ⊢
  have HL := Lib.hid hl
  have HM := Lib.hid hmild
  replace IH := Lib.hid IH
  clear hl hn hmild hm hc
  go_enter Tryz.func54, Tryz.ntmps54
  go_wp2_with fail
  go_loopw [3, 8] (fun o y wr => ∃ (k : Nat), y = .int .i64 (k : Int) ∧ k ≤ n ∧ Hid (OwnT 45 w.heap.size (fun b => w.heap.size ≤ b) wr o (l.take k)) ∧ Below w.heap.size w wr) (fun _ y _ => n - (intOf y).toNat)
  case atStart => exact ⟨0, rfl, Nat.zero_le _, Lib.hid (by rw [List.take_zero]; exact OwnT.nil _ _ _ _), Below.refl _ _⟩
  case round =>
    obtain ⟨k, rfl, hk, hown, hbr⟩ := hrel
    by_cases hkn : k < n
    · have hdec : decide ((k : Int) < (n : Int)) = true := by simpa using hkn
      have hkw : IntKind.i64.wrap ((k : Int) + 1) = (k : Int) + 1 := IntWalk.i64_in _ (by omega)
      obtain ⟨gb, off, x, ka, kc, na, nc, rfl, hx, hgb, -, ⟨c0, c1, c2, c3, c4, c5⟩, hkt, hnt⟩ := (HL.out.bel hbr).nth k hkn
      have hxl := List.mem_of_getElem? hx
      have hfair := (HM.out.fair x (mem_all hxl)).2.1
      have HIH := Lib.hid (IH.out x hxl)
      have HTK := Lib.hid (take_snoc hx)
      have HTL : Hid ((l.take k).length = k) := Lib.hid (by rw [List.length_take, HN.out]; omega)
      go_upto_region 5 with fail
      have hX5 := alloc_bel wr (.cells #[.int .i64 x.kind, .string ⟨x.name.toArray⟩, .int .i64 x.num, .slice ka x.kids.length kc, .slice na x.names.length nc, .int .i64 x.at_] 50)
      have hk5 := Blk.made (T := 50) (cs := #[.int .i64 x.kind, .string ⟨x.name.toArray⟩, .int .i64 x.num, .slice ka x.kids.length kc, .slice na x.names.length nc, .int .i64 x.at_]) wr
      have hz5 : (wr.alloc (.cells #[.int .i64 x.kind, .string ⟨x.name.toArray⟩, .int .i64 x.num, .slice ka x.kids.length kc, .slice na x.names.length nc, .int .i64 x.at_] 50)).heap.size = wr.heap.size + 1 := by simp
      have hO5 := hown.out.bel hX5
      have HKT := Lib.hid (hkt.bel hX5)
      have HNT := Lib.hid (hnt.below hX5)
      obtain ⟨W5, hW5⟩ : ∃ W, wr.alloc (.cells #[.int .i64 x.kind, .string ⟨x.name.toArray⟩, .int .i64 x.num, .slice ka x.kids.length kc, .slice na x.names.length nc, .int .i64 x.at_] 50) = W := ⟨_, rfl⟩
      rw [hW5] at hX5 hk5 hz5 hO5 HKT HNT ⊢
      obtain ⟨KB, hKB⟩ : ∃ b, wr.heap.size = b := ⟨_, rfl⟩
      rw [hKB] at hk5 hz5 ⊢
      have hwKB : w.heap.size ≤ KB := by rw [← hKB]; exact hbr.size
      obtain ⟨vl, hvl, hrow, hsub⟩ := hO5
      have hown5 : ∀ b, u3.ownBlock = some b → w.heap.size ≤ b ∧ b < KB := fun b hb => by
        obtain ⟨vl', -, hr', -⟩ := hown.out
        have := hr'.lt b hb
        omega
      have hvll : vl.length = k := by have h := congrArg List.length hvl; rw [List.length_map, HTL.out] at h; exact h
      rw [hvll] at hrow
      have HVL := Lib.hid hvl
      have HVLL := Lib.hid hvll
      have HROW := Lib.hid hrow
      have HSUB := Lib.hid hsub
      have HOWN5 := Lib.hid hown5
      have HK5 := Lib.hid hk5
      have hbr5 := hbr.trans (hX5.mono hbr.size)
      have HBR5 := Lib.hid hbr5
      have hkl := hk5.lt
      have hS : ∀ v, Below W5.heap.size W5 v → (v.cell? ⟨KB, 0, none⟩ = some (.int .i64 x.kind) ∧ v.cell? ⟨KB, 1, none⟩ = some (.string ⟨x.name.toArray⟩) ∧ v.cell? ⟨KB, 2, none⟩ = some (.int .i64 x.num) ∧ v.cell? ⟨KB, 3, none⟩ = some (.slice ka x.kids.length kc) ∧ v.cell? ⟨KB, 4, none⟩ = some (.slice na x.names.length nc) ∧ v.cell? ⟨KB, 5, none⟩ = some (.int .i64 x.at_)) := fun v hv =>
        have h := HK5.out.below hv hkl
        ⟨h.c 0 _ rfl, h.c 1 _ rfl, h.c 2 _ rfl, h.c 3 _ rfl, h.c 4 _ rfl, h.c 5 _ rfl⟩
      clear hW5 hKB hX5 hk5 hvl hvll hrow hsub hown5 hown hkt hnt hx hxl c0 c1 c2 c3 c4 c5 hbr hbr5
      refine wp_region_noPanic ?_
      refine Hd.start (fun v => v.cell? ⟨KB, 0, none⟩ = some (.int .i64 x.kind) ∧ v.cell? ⟨KB, 1, none⟩ = some (.string ⟨x.name.toArray⟩) ∧ v.cell? ⟨KB, 2, none⟩ = some (.int .i64 x.num) ∧ v.cell? ⟨KB, 3, none⟩ = some (.slice ka x.kids.length kc) ∧ v.cell? ⟨KB, 4, none⟩ = some (.slice na x.names.length nc) ∧ v.cell? ⟨KB, 5, none⟩ = some (.int .i64 x.at_)) (by kernel_rfl) (hS _ (Below.refl _ W5).drew) (fun hH0 => ?_)
      refine Hd.take 0 18 (oi := ?_) (v := ?_) ?_ (by kernel_rfl) (fun _ _ _ h => h) hH0 ?_ ?_ ?_
      rotate_left 2
      · simp only [List.getElem?_toArray, List.getElem?_cons_zero]
        exact rfl
      · rfl
      · intro w hSw
        (try dsimp only at hSw)
        go_simp
        try with_reducible rfl
      try simp only [Act.put, List.setIfInBounds_toArray, List.set_cons_zero, List.set_cons_succ]
      refine Hd.take 1 2 (oi := ?_) (v := ?_) ?_ (by kernel_rfl) (fun _ _ _ h => h) hH0 ?_ ?_ ?_
      rotate_left 2
      · simp only [List.getElem?_toArray, List.getElem?_cons_succ, List.getElem?_cons_zero]
        exact rfl
      · rfl
      · intro w hSw
        (try dsimp only at hSw)
        go_simp
        try with_reducible rfl
      try simp only [Act.put, List.setIfInBounds_toArray, List.set_cons_zero, List.set_cons_succ]
      refine Hd.take 2 16 (oi := ?_) (v := ?_) ?_ (by kernel_rfl) (fun _ _ _ h => h) hH0 ?_ ?_ ?_
      rotate_left 2
      · simp only [List.getElem?_toArray, List.getElem?_cons_succ, List.getElem?_cons_zero]
        exact rfl
      · rfl
      · intro w hSw
        (try dsimp only at hSw)
        go_simp
        try with_reducible rfl
      try simp only [Act.put, List.setIfInBounds_toArray, List.set_cons_zero, List.set_cons_succ]
      refine Hd.take 3 4 (oi := ?_) (v := ?_) ?_ (by kernel_rfl) (fun _ _ _ h => h) hH0 ?_ ?_ ?_
      rotate_left 2
      · simp only [List.getElem?_toArray, List.getElem?_cons_succ, List.getElem?_cons_zero]
        exact rfl
      · rfl
      · intro w hSw
        (try dsimp only at hSw)
        go_simp
        try with_reducible rfl
      try simp only [Act.put, List.setIfInBounds_toArray, List.set_cons_zero, List.set_cons_succ]
      refine Hd.take 4 16 (oi := ?_) (v := ?_) ?_ (by kernel_rfl) (fun _ _ _ h => h) hH0 ?_ ?_ ?_
      rotate_left 2
      · simp only [List.getElem?_toArray, List.getElem?_cons_succ, List.getElem?_cons_zero]
        exact rfl
      · rfl
      · intro w hSw
        (try dsimp only at hSw)
        go_simp
        try with_reducible rfl
      try simp only [Act.put, List.setIfInBounds_toArray, List.set_cons_zero, List.set_cons_succ]
      refine Hd.take 5 6 (oi := ?_) (v := ?_) ?_ (by kernel_rfl) (fun _ _ _ h => h) hH0 ?_ ?_ ?_
      rotate_left 2
      · simp only [List.getElem?_toArray, List.getElem?_cons_succ, List.getElem?_cons_zero]
        exact rfl
      · rfl
      · intro w hSw
        (try dsimp only at hSw)
        go_simp
        try with_reducible rfl
      try simp only [Act.put, List.setIfInBounds_toArray, List.set_cons_zero, List.set_cons_succ]
      refine Hd.take 6 16 (oi := ?_) (v := ?_) ?_ (by kernel_rfl) (fun _ _ _ h => h) hH0 ?_ ?_ ?_
      rotate_left 2
      · simp only [List.getElem?_toArray, List.getElem?_cons_succ, List.getElem?_cons_zero]
        exact rfl
      · rfl
      · intro w hSw
        (try dsimp only at hSw)
        go_simp
        try with_reducible rfl
      try simp only [Act.put, List.setIfInBounds_toArray, List.set_cons_zero, List.set_cons_succ]
      refine Hd.take 7 8 (oi := ?_) (v := ?_) ?_ (by kernel_rfl) (fun _ _ _ h => h) hH0 ?_ ?_ ?_
      rotate_left 2
      · simp only [List.getElem?_toArray, List.getElem?_cons_succ, List.getElem?_cons_zero]
        exact rfl
      · rfl
      · intro w hSw
        (try dsimp only at hSw)
        go_simp
        try with_reducible rfl
      try simp only [Act.put, List.setIfInBounds_toArray, List.set_cons_zero, List.set_cons_succ]
      refine Hd.take 8 9 (oi := ?_) (v := ?_) ?_ (by kernel_rfl) (fun _ _ _ h => h) hH0 ?_ ?_ ?_
      rotate_left 2
      · simp only [List.getElem?_toArray, List.getElem?_cons_succ, List.getElem?_cons_zero]
        exact rfl
      · rfl
      · intro w hSw
        (try dsimp only at hSw)
        go_simp
        try with_reducible rfl
      try simp only [Act.put, List.setIfInBounds_toArray, List.set_cons_zero, List.set_cons_succ]
      refine Hd.take 11 12 (oi := ?_) (v := ?_) ?_ (by kernel_rfl) (fun _ _ _ h => h) hH0 ?_ ?_ ?_
      rotate_left 2
      · simp only [List.getElem?_toArray, List.getElem?_cons_succ, List.getElem?_cons_zero]
        exact rfl
      · rfl
      · intro w hSw
        (try dsimp only at hSw)
        go_simp
        try with_reducible rfl
      try simp only [Act.put, List.setIfInBounds_toArray, List.set_cons_zero, List.set_cons_succ]
      refine Hd.take 12 13 (oi := ?_) (v := ?_) ?_ (by kernel_rfl) (fun _ _ _ h => h) hH0 ?_ ?_ ?_
      rotate_left 2
      · simp only [List.getElem?_toArray, List.getElem?_cons_succ, List.getElem?_cons_zero]
        exact rfl
      · rfl
      · intro w hSw
        (try dsimp only at hSw)
        go_simp
        try with_reducible rfl
      try simp only [Act.put, List.setIfInBounds_toArray, List.set_cons_zero, List.set_cons_succ]
      refine Hd.take 14 15 (oi := ?_) (v := ?_) ?_ (by kernel_rfl) (fun _ _ _ h => h) hH0 ?_ ?_ ?_
      rotate_left 2
      · simp only [List.getElem?_toArray, List.getElem?_cons_succ, List.getElem?_cons_zero]
        exact rfl
      · rfl
      · intro w hSw
        (try dsimp only at hSw)
        go_simp
        try with_reducible rfl
      try simp only [Act.put, List.setIfInBounds_toArray, List.set_cons_zero, List.set_cons_succ]
      refine Hd.take 15 16 (oi := ?_) (v := ?_) ?_ (by kernel_rfl) (fun _ _ _ h => h) hH0 ?_ ?_ ?_
      rotate_left 2
      · simp only [List.getElem?_toArray, List.getElem?_cons_succ, List.getElem?_cons_zero]
        exact rfl
      · rfl
      · intro w hSw
        (try dsimp only at hSw)
        go_simp
        try with_reducible rfl
      try simp only [Act.put, List.setIfInBounds_toArray, List.set_cons_zero, List.set_cons_succ]
      refine Hd.two 9 10 (o := ?_) (p := ?_) ?_ ?_ (by kernel_rfl) (fun K hK => ?_) (fun K hK => ?_)
      rotate_left 2
      · simp only [List.getElem?_toArray, List.getElem?_cons_succ, List.getElem?_cons_zero]
        exact rfl
      · simp only [List.getElem?_toArray, List.getElem?_cons_succ, List.getElem?_cons_zero]
        exact rfl
      · skip
        go_simp
        refine (HIH.out _ _ (HKT.out.bel (Below.refl _ W5).drew)).mono ?_; rintro e w6 ⟨hb6, v6, rfl, hO6⟩
        have hT6 := hO6.tree
        have hlo6 : ∀ g, v6.ownBlock = some g → W5.heap.size ≤ g := fun g hg => by obtain ⟨vl6, -, ho6, -⟩ := hO6; exact (ho6.lt g hg).1
        obtain ⟨fo, fl, fc, rfl⟩ : ∃ a b c, v6 = .slice a b c := by obtain ⟨vl6, -, ho6, -⟩ := hO6; obtain ⟨ao, co, h, -⟩ := own_slice ho6; exact ⟨_, _, _, h⟩
        have hb6' : Below W5.heap.size W5 w6 := (Below.refl _ W5).drew.trans (hb6.mono (Nat.le_refl _))
        have hX7 := alloc_bel w6 (.cells #[] 9)
        have HB6 := Lib.hid hb6'
        have HB7 := Lib.hid (hb6'.trans (hX7.mono hb6'.size))
        have HE7 := Lib.hid (own_mono (World.ownsRow_made (e := 9) (size := 1) w6 #[] 0 (Nat.le_refl _) (by unfold maxLen; omega) rfl) hb6'.size)
        have HT7 := Lib.hid ((hT6.mono (S' := fun b => W5.heap.size ≤ b ∧ some w6.heap.size ≠ some b) (fun b hb hl => ⟨by rcases hb with hb | hb; exact hb; exact hlo6 b hb, fun h => by cases h; omega⟩)).bel hX7)
        clear hO6 hT6 hlo6 hb6 hb6' hX7
        go_wp2_with fail
        refine hK.out _ _ (hS _ HB6.out) (fun hH1 => ?_)
        clear hK K
        try simp only [Act.put, List.setIfInBounds_toArray, List.set_cons_zero, List.set_cons_succ]
        refine Hd.one 10 10 (o := ?_) ?_ (by kernel_rfl) (fun K hK => ?_)
        rotate_left 1
        · simp only [List.getElem?_toArray, List.getElem?_cons_succ, List.getElem?_cons_zero]
          exact rfl
        go_simp
        refine hK.out _ _ (hS _ HB7.out) (fun hH2 => ?_)
        clear hK K
        try simp only [Act.put, List.setIfInBounds_toArray, List.set_cons_zero, List.set_cons_succ]
        refine Hd.one 13 13 (o := ?_) ?_ (by kernel_rfl) (fun K hK => ?_)
        rotate_left 1
        · simp only [List.getElem?_toArray, List.getElem?_cons_succ, List.getElem?_cons_zero]
          exact rfl
        refine step_rd (S := fun _ => True) (f := strV) (fun _ => rfl) rfl (.tmp 22) (.tmp 24) 22 9 rfl tI iI (.string ⟨#[]⟩) 16 hiI hI0 hI1 hI2 rfl (by exact HE7.out) (by simp [Act.eval]) (by simp [Act.eval]) (HNT.out.below HB7.out) (by unfold maxLen; omega) (by omega) (by exact HB7.out.size) ?_
        intro v8 w8 hown8 hg8 _
        have hb8 := HB7.out.grown hg8 HB7.out.size (fun k hk => (HE7.out.lt k hk).1)
        have hN8 : w8.ownsRow W5.heap.size 9 1 v8 x.names.length (x.names.map strV) := by simpa using hown8
        have hT8 : Tree (fun b => W5.heap.size ≤ b) w8 (.slice fo fl fc) x.kids := (HT7.out.kp ⟨hg8.size, fun b hb hl => hg8.block b hl (fun e => hb.2 e.symm)⟩).mono (fun b hb _ => hb.1)
        obtain ⟨lo, ln, lc, rfl⟩ : ∃ a b c, v8 = .slice a b c := by obtain ⟨fo, fc, h, -⟩ := own_slice hN8; exact ⟨_, _, _, h⟩
        have HB8 := Lib.hid hb8
        have HR8 := Lib.hid (Rd.of hN8)
        have HT8 := Lib.hid hT8
        clear hown8 hg8 hb8 hN8 hT8
        refine hK.out _ _ (hS _ HB8.out) (fun hH3 => ?_)
        clear hK K
        try simp only [Act.put, List.setIfInBounds_toArray, List.set_cons_zero, List.set_cons_succ]
        refine Hd.take 16 17 (oi := ?_) (v := ?_) ?_ (by kernel_rfl) (fun _ _ _ h => h) hH3 ?_ ?_ ?_
        rotate_left 2
        · simp only [List.getElem?_toArray, List.getElem?_cons_succ, List.getElem?_cons_zero]
          exact rfl
        · rfl
        · intro w hSw
          (try dsimp only at hSw)
          go_simp
          try with_reducible rfl
        try simp only [Act.put, List.setIfInBounds_toArray, List.set_cons_zero, List.set_cons_succ]
        have hX9 := alloc_bel w8 (.cells #[.int .i64 x.kind, .string ⟨x.name.toArray⟩, .int .i64 x.num, .slice fo fl fc, .slice lo ln lc, .int .i64 x.at_] 45)
        have HB9 := Lib.hid (HB8.out.trans (hX9.mono HB8.out.size))
        have HX9 := Lib.hid hX9
        clear hX9
        refine Hd.one 17 17 (o := ?_) ?_ (by kernel_rfl) (fun K hK => ?_)
        rotate_left 1
        · simp only [List.getElem?_toArray, List.getElem?_cons_succ, List.getElem?_cons_zero]
          exact rfl
        go_simp
        refine hK.out _ _ (hS _ HB9.out) (fun hH4 => ?_)
        clear hK K
        try simp only [Act.put, List.setIfInBounds_toArray, List.set_cons_zero, List.set_cons_succ]
        have HR9 := Lib.hid (own_below HROW.out HB9.out)
        have hsz9 := HB9.out.size
        have hsz8 := HB8.out.size
        refine Hd.one 18 18 (o := ?_) ?_ (by kernel_rfl) (fun K hK => ?_)
        rotate_left 1
        · simp only [List.getElem?_toArray, List.getElem?_cons_succ, List.getElem?_cons_zero]
          exact rfl
        refine step_append_lies _ rfl (.tmp 12) (.tmp 29) 23 rfl w.heap.size 45 i0 (.agg #[.int .i64 0, .string ⟨#[]⟩, .int .i64 0, .slice none 0 0, .slice none 0 0, .int .i64 0]) 6 88 tsl hi0 hz0 hz1 hz2 rfl (by decide) _ k (flatN vl) (by simp [Act.eval]) HR9.out ⟨w8.heap.size, 0, none⟩ 1 1 [.int .i64 x.kind, .string ⟨x.name.toArray⟩, .int .i64 x.num, .slice fo fl fc, .slice lo ln lc, .int .i64 x.at_] (by simp [Act.eval]) rfl (cells6 w8 45 _ _ _ _ _ _) (fun u hu => by simp at hu; rcases hu with rfl | rfl | rfl | rfl | rfl | rfl <;> rfl) (by decide) (by unfold maxLen; omega) (by omega) (by omega) _ rfl ?_
        intro g cap w10 hown10 hg10 hat10 hlt10
        have hm9 : ∀ b, W5.heap.size ≤ b → (w.heap.size ≤ b ∧ u3.ownBlock ≠ some b) := fun b hb => ⟨by omega, fun h => by have := HOWN5.out b h; omega⟩
        have hsn := own_snoc (n := k) (S := fun b => w.heap.size ≤ b) (x := x) (kv := .slice fo fl fc) (nv := .slice lo ln lc) HVLL.out.symm hg10.size (fun y hy => ⟨(HSUB.out y hy).1.bel HB9.out, (HSUB.out y hy).2.below HB9.out⟩) ((HT8.out.bel HX9.out).mono (fun b hb _ => hm9 b hb)) ((HR8.out.below HX9.out).mono (fun b hb _ => hm9 b hb)) hown10 hg10 hat10
        rw [HVL.out, ← HTK.out] at hsn
        have hk10 := (hg10.block KB (HK5.out.below HB9.out hkl).lt (fun e => by have := HOWN5.out KB e.symm; omega)).trans (HK5.out.below HB9.out hkl)
        have hb59 := HBR5.out.trans (HB9.out.mono HBR5.out.size)
        have hb10 := hb59.grown hg10 hb59.size (fun k hk => (HOWN5.out k hk).1)
        have HSN := Lib.hid hsn
        have HB10 := Lib.hid hb10
        have HK10 := Lib.hid (show Blk 50 KB #[.int .i64 x.kind, .string ⟨x.name.toArray⟩, .int .i64 x.num, .slice ka x.kids.length kc, .slice na x.names.length nc, .int .i64 x.at_] w10 from hk10)
        clear hown10 hg10 hat10 hlt10 hsn hk10 hb10 hb59 hm9 hsz9 hsz8
        refine hK.out _ _ ⟨HK10.out.c 0 _ rfl, HK10.out.c 1 _ rfl, HK10.out.c 2 _ rfl, HK10.out.c 3 _ rfl, HK10.out.c 4 _ rfl, HK10.out.c 5 _ rfl⟩ (fun hH5 => ?_)
        clear hK K
        try simp only [Act.put, List.setIfInBounds_toArray, List.set_cons_zero, List.set_cons_succ]
        refine Hd.last 19 (o := ?_) ?_ (by kernel_rfl) (by kernel_rfl) (by kernel_rfl) (fun K hK => ?_)
        rotate_left 1
        · simp only [List.getElem?_toArray, List.getElem?_cons_succ, List.getElem?_cons_zero]
          exact rfl
        go_simp
        refine hK.out _ _ ?_
        clear hK K
        try simp only [Act.put, List.setIfInBounds_toArray, List.set_cons_zero, List.set_cons_succ]
        simp only [NoPanic]
        clear hS
        go_wp2_with fail
        exact ⟨⟨k + 1, by simp, by omega, HSN, HB10.out⟩, by simp only [intOf]; omega⟩
      · skip
        go_simp
        have hX6 : Below W5.heap.size W5 (W5.drew.alloc (.cells #[] 9)) := (Below.refl _ W5).drew.alloc (Nat.le_refl _) _
        have HE6 := Lib.hid (World.ownsRow_made (e := 9) (size := 1) W5.drew #[] 0 (Nat.le_refl _) (by unfold maxLen; omega) rfl)
        have HX6 := Lib.hid hX6
        refine hK.out _ _ (hS _ hX6) (fun hH1 => ?_)
        clear hK K hX6
        try simp only [Act.put, List.setIfInBounds_toArray, List.set_cons_zero, List.set_cons_succ]
        refine Hd.one 9 9 (o := ?_) ?_ (by kernel_rfl) (fun K hK => ?_)
        rotate_left 1
        · simp only [List.getElem?_toArray, List.getElem?_cons_succ, List.getElem?_cons_zero]
          exact rfl
        go_simp
        refine (HIH.out _ _ (HKT.out.bel HX6.out)).mono ?_; rintro e w7 ⟨hb7, v6, rfl, hO6⟩
        have hT6 := hO6.tree
        have hlo6 : ∀ g, v6.ownBlock = some g → W5.heap.size + 1 ≤ g := fun g hg => by obtain ⟨vl6, -, ho6, -⟩ := hO6; have := (ho6.lt g hg).1; simpa using this
        obtain ⟨fo, fl, fc, rfl⟩ : ∃ a b c, v6 = .slice a b c := by obtain ⟨vl6, -, ho6, -⟩ := hO6; obtain ⟨ao, co, h, -⟩ := own_slice ho6; exact ⟨_, _, _, h⟩
        have HB7 := Lib.hid (HX6.out.trans (hb7.mono HX6.out.size))
        have HE7 := Lib.hid (own_below HE6.out hb7)
        have HT7 := Lib.hid (hT6.mono (S' := fun b => W5.heap.size ≤ b ∧ some W5.heap.size ≠ some b) (fun b hb hl => by
          have hbb : W5.heap.size + 1 ≤ b := by
            rcases hb with hb | hb
            · simpa using hb
            · exact hlo6 b hb
          exact ⟨by omega, fun h => by cases h; omega⟩))
        clear hO6 hT6 hlo6 hb7 HE6
        go_wp2_with fail
        refine hK.out _ _ (hS _ HB7.out) (fun hH2 => ?_)
        clear hK K
        try simp only [Act.put, List.setIfInBounds_toArray, List.set_cons_zero, List.set_cons_succ]
        refine Hd.one 13 13 (o := ?_) ?_ (by kernel_rfl) (fun K hK => ?_)
        rotate_left 1
        · simp only [List.getElem?_toArray, List.getElem?_cons_succ, List.getElem?_cons_zero]
          exact rfl
        refine step_rd (S := fun _ => True) (f := strV) (fun _ => rfl) rfl (.tmp 22) (.tmp 24) 22 9 rfl tI iI (.string ⟨#[]⟩) 16 hiI hI0 hI1 hI2 rfl (by exact HE7.out) (by simp [Act.eval]) (by simp [Act.eval]) (HNT.out.below HB7.out) (by unfold maxLen; omega) (by omega) (by exact HB7.out.size) ?_
        intro v8 w8 hown8 hg8 _
        have hb8 := HB7.out.grown hg8 HB7.out.size (fun k hk => (HE7.out.lt k hk).1)
        have hN8 : w8.ownsRow W5.heap.size 9 1 v8 x.names.length (x.names.map strV) := by simpa using hown8
        have hT8 : Tree (fun b => W5.heap.size ≤ b) w8 (.slice fo fl fc) x.kids := (HT7.out.kp ⟨hg8.size, fun b hb hl => hg8.block b hl (fun e => hb.2 e.symm)⟩).mono (fun b hb _ => hb.1)
        obtain ⟨lo, ln, lc, rfl⟩ : ∃ a b c, v8 = .slice a b c := by obtain ⟨fo, fc, h, -⟩ := own_slice hN8; exact ⟨_, _, _, h⟩
        have HB8 := Lib.hid hb8
        have HR8 := Lib.hid (Rd.of hN8)
        have HT8 := Lib.hid hT8
        clear hown8 hg8 hb8 hN8 hT8
        refine hK.out _ _ (hS _ HB8.out) (fun hH3 => ?_)
        clear hK K
        try simp only [Act.put, List.setIfInBounds_toArray, List.set_cons_zero, List.set_cons_succ]
        refine Hd.take 16 17 (oi := ?_) (v := ?_) ?_ (by kernel_rfl) (fun _ _ _ h => h) hH3 ?_ ?_ ?_
        rotate_left 2
        · simp only [List.getElem?_toArray, List.getElem?_cons_succ, List.getElem?_cons_zero]
          exact rfl
        · rfl
        · intro w hSw
          (try dsimp only at hSw)
          go_simp
          try with_reducible rfl
        try simp only [Act.put, List.setIfInBounds_toArray, List.set_cons_zero, List.set_cons_succ]
        have hX9 := alloc_bel w8 (.cells #[.int .i64 x.kind, .string ⟨x.name.toArray⟩, .int .i64 x.num, .slice fo fl fc, .slice lo ln lc, .int .i64 x.at_] 45)
        have HB9 := Lib.hid (HB8.out.trans (hX9.mono HB8.out.size))
        have HX9 := Lib.hid hX9
        clear hX9
        refine Hd.one 17 17 (o := ?_) ?_ (by kernel_rfl) (fun K hK => ?_)
        rotate_left 1
        · simp only [List.getElem?_toArray, List.getElem?_cons_succ, List.getElem?_cons_zero]
          exact rfl
        go_simp
        refine hK.out _ _ (hS _ HB9.out) (fun hH4 => ?_)
        clear hK K
        try simp only [Act.put, List.setIfInBounds_toArray, List.set_cons_zero, List.set_cons_succ]
        have HR9 := Lib.hid (own_below HROW.out HB9.out)
        have hsz9 := HB9.out.size
        have hsz8 := HB8.out.size
        refine Hd.one 18 18 (o := ?_) ?_ (by kernel_rfl) (fun K hK => ?_)
        rotate_left 1
        · simp only [List.getElem?_toArray, List.getElem?_cons_succ, List.getElem?_cons_zero]
          exact rfl
        refine step_append_lies _ rfl (.tmp 12) (.tmp 29) 23 rfl w.heap.size 45 i0 (.agg #[.int .i64 0, .string ⟨#[]⟩, .int .i64 0, .slice none 0 0, .slice none 0 0, .int .i64 0]) 6 88 tsl hi0 hz0 hz1 hz2 rfl (by decide) _ k (flatN vl) (by simp [Act.eval]) HR9.out ⟨w8.heap.size, 0, none⟩ 1 1 [.int .i64 x.kind, .string ⟨x.name.toArray⟩, .int .i64 x.num, .slice fo fl fc, .slice lo ln lc, .int .i64 x.at_] (by simp [Act.eval]) rfl (cells6 w8 45 _ _ _ _ _ _) (fun u hu => by simp at hu; rcases hu with rfl | rfl | rfl | rfl | rfl | rfl <;> rfl) (by decide) (by unfold maxLen; omega) (by omega) (by omega) _ rfl ?_
        intro g cap w10 hown10 hg10 hat10 hlt10
        have hm9 : ∀ b, W5.heap.size ≤ b → (w.heap.size ≤ b ∧ u3.ownBlock ≠ some b) := fun b hb => ⟨by omega, fun h => by have := HOWN5.out b h; omega⟩
        have hsn := own_snoc (n := k) (S := fun b => w.heap.size ≤ b) (x := x) (kv := .slice fo fl fc) (nv := .slice lo ln lc) HVLL.out.symm hg10.size (fun y hy => ⟨(HSUB.out y hy).1.bel HB9.out, (HSUB.out y hy).2.below HB9.out⟩) ((HT8.out.bel HX9.out).mono (fun b hb _ => hm9 b hb)) ((HR8.out.below HX9.out).mono (fun b hb _ => hm9 b hb)) hown10 hg10 hat10
        rw [HVL.out, ← HTK.out] at hsn
        have hk10 := (hg10.block KB (HK5.out.below HB9.out hkl).lt (fun e => by have := HOWN5.out KB e.symm; omega)).trans (HK5.out.below HB9.out hkl)
        have hb59 := HBR5.out.trans (HB9.out.mono HBR5.out.size)
        have hb10 := hb59.grown hg10 hb59.size (fun k hk => (HOWN5.out k hk).1)
        have HSN := Lib.hid hsn
        have HB10 := Lib.hid hb10
        have HK10 := Lib.hid (show Blk 50 KB #[.int .i64 x.kind, .string ⟨x.name.toArray⟩, .int .i64 x.num, .slice ka x.kids.length kc, .slice na x.names.length nc, .int .i64 x.at_] w10 from hk10)
        clear hown10 hg10 hat10 hlt10 hsn hk10 hb10 hb59 hm9 hsz9 hsz8
        refine hK.out _ _ ⟨HK10.out.c 0 _ rfl, HK10.out.c 1 _ rfl, HK10.out.c 2 _ rfl, HK10.out.c 3 _ rfl, HK10.out.c 4 _ rfl, HK10.out.c 5 _ rfl⟩ (fun hH5 => ?_)
        clear hK K
        try simp only [Act.put, List.setIfInBounds_toArray, List.set_cons_zero, List.set_cons_succ]
        refine Hd.last 19 (o := ?_) ?_ (by kernel_rfl) (by kernel_rfl) (by kernel_rfl) (fun K hK => ?_)
        rotate_left 1
        · simp only [List.getElem?_toArray, List.getElem?_cons_succ, List.getElem?_cons_zero]
          exact rfl
        go_simp
        refine hK.out _ _ ?_
        clear hK K
        try simp only [Act.put, List.setIfInBounds_toArray, List.set_cons_zero, List.set_cons_succ]
        simp only [NoPanic]
        clear hS
        go_wp2_with fail
        exact ⟨⟨k + 1, by simp, by omega, HSN, HB10.out⟩, by simp only [intOf]; omega⟩
    · obtain rfl : k = n := by omega
      have hdec : decide ((k : Int) < (k : Int)) = false := by simp
      have hall : l.take k = l := List.take_of_length_le (by rw [HN.out]; exact Nat.le_refl _)
      rw [hall] at hown
      clear hall
      go_wp2_with fail
      go_ret
      exact ⟨hbr, _, rfl, hown.out⟩
theorem told_all : ∀ (m : Nat) (l : List Nd), cntL l < m → Mild l → ToldOk l
  | 0, l, h, _ => by omega
  | m + 1, l, h, hm => told_step l hm (fun y hy => told_all m y.kids (by have := cnt_mem hy; omega) (hm.kids hy))
theorem told_any (l : List Nd) (hm : Mild l) : ToldOk l := told_all (cntL l + 1) l (by omega) hm
end Tr
end Go.Proofs.YtfbhokdcnjekiaaGreatDoor
namespace Go.Proofs.YtfbhokdcnjekiaaGreatDoor
open Go.RowKit
namespace Tr
open Bs Sm
theorem set_near' {w : World} {g j : Nat} {u : Value} (z : Value) (h : w.cell? ⟨g, j, none⟩ = some u) : (w.setCell ⟨g, j, none⟩ z).cell? ⟨g, j, none⟩ = some z := World.cell?_setCell_same _ _ _ h
/-- One text of a row is stored anew. -/
theorem Rd.put {w : World} {g n cap : Nat} {l : List Bytes} (h : Rd (fun b => b = g) strV w (.slice (some ⟨g, 0, none⟩) n cap) l) (k : Nat) (hk : k < n) (x : Bytes) :
    Rd (fun b => b = g) strV (w.setCell ⟨g, k, none⟩ (strV x)).drew (.slice (some ⟨g, 0, none⟩) n cap) (l.set k x) := by
  obtain ⟨a, c, e, h2, h3, h4, h5⟩ := h
  cases e
  refine ⟨_, _, by rw [List.length_set], by rw [List.length_set]; exact h2, h3, h4, fun hl => ?_⟩
  rw [List.length_set] at hl
  obtain ⟨b, off, k1, k0, k2, k3⟩ := h5 hl
  cases k1
  refine ⟨_, _, rfl, rfl, by simpa [World.setCell] using k2, fun i y hy => ?_⟩
  rw [List.getElem?_set] at hy
  rw [Nat.zero_add]
  by_cases hik : k = i
  · subst hik
    rw [if_pos rfl, if_pos hk] at hy
    cases hy
    have h0 := k3 k _ (List.getElem?_eq_getElem hk)
    rw [Nat.zero_add] at h0
    exact set_near' _ h0
  · rw [if_neg hik] at hy
    have h0 := k3 i y hy
    rw [Nat.zero_add] at h0
    exact (set_far w g k _ (fun e => hik e.2.symm)).trans h0
theorem frz_set (w : World) (g k i : Nat) (z : Value) : (w.setCell ⟨g, k, none⟩ z).drew.frozen? ⟨g, i, none⟩ = w.frozen? ⟨g, i, none⟩ := by
  show (w.setCell ⟨g, k, none⟩ z).frozen? ⟨g, i, none⟩ = _
  simp
theorem fits_no : ∀ (l : List Nd), fitsK false false l = true → ∀ y ∈ l, holed y = false
  | [], _, y, hy => by cases hy
  | x :: l, h, y, hy => by
    rw [fitsK_cons, Bool.and_eq_true] at h
    rcases List.mem_cons.1 hy with rfl | hy
    · have h1 := h.1
      unfold fitsB at h1
      simp only [Bool.and_eq_true] at h1
      simpa using h1.1.2
    · exact fits_no l h.2 y hy
theorem itoa_len (n : Int) (h0 : -9223372036854775808 ≤ n) (h1 : n ≤ 9223372036854775807) : (Lib.itoa n).length ≤ 21 := by
  unfold Lib.itoa
  split
  · have := dec_len 18 n.natAbs (by omega)
    simp; omega
  · have := dec_len 18 n.toNat (by omega)
    omega
set_option maxRecDepth 100000 in
set_option maxHeartbeats 6400000 in
theorem rprint_any (m : Mt) (hmild : Mild m.body) (hck : checkM m = 0) (htl15 : m.temps.length ≤ 15) (pv tv bv : Value) (w : World) (hm : MtAt (fun _ => True) w m pv tv bv) :
    Calls Tryz.prog 17 #[mtV m pv tv bv] w (Back (strV (printT m)) w) := by
  obtain ⟨hgd, ha, hp0, hp9, hpn, htn⟩ := good_body hmild hck
  have hbody : bodyB m.body = true := by
    unfold checkM headB at hck
    split at hck
    · cases hck
    · rename_i h1
      simp only [Bool.not_eq_false, Bool.and_eq_true] at h1
      exact h1.2
  have HHO : Hid (∀ y ∈ m.body, holed y = false) := Lib.hid (by
    unfold checkM at hck
    split at hck
    · cases hck
    · split at hck
      · cases hck
      · rename_i h2
        exact fits_no _ (by simpa using h2))
  obtain ⟨pa, pc, ta, tc, ba, bc, rfl, rfl, rfl⟩ := hm.form
  have ha0 : 0 ≤ Lx.arityL m.name := by rw [ha]; omega
  have hplen := pat_len ha hpn
  have hX := alloc_bel w (.cells #[.string ⟨m.name.toArray⟩, .slice pa m.params.length pc, .slice ta m.temps.length tc, .int .i64 m.prim, .slice ba m.body.length bc, .int .i64 m.at_] 25)
  have hbk := Blk.made (T := 25) (cs := #[.string ⟨m.name.toArray⟩, .slice pa m.params.length pc, .slice ta m.temps.length tc, .int .i64 m.prim, .slice ba m.body.length bc, .int .i64 m.at_]) w
  obtain ⟨w2, hw⟩ : ∃ v, w.alloc (.cells #[.string ⟨m.name.toArray⟩, .slice pa m.params.length pc, .slice ta m.temps.length tc, .int .i64 m.prim, .slice ba m.body.length bc, .int .i64 m.at_] 25) = v := ⟨_, rfl⟩
  rw [hw] at hX hbk
  have hm2 := (hm.mono (S' := fun b => b < w.heap.size) (fun _ _ hl => hl)).bel hX
  have hwl := hbk.lt
  obtain ⟨PT, hPT⟩ : ∃ t, patT m = t := ⟨_, rfl⟩
  rw [hPT] at hplen
  obtain ⟨X1, hX1⟩ : ∃ t, (if m.prim = 0 then [] else [32, 60, 112, 114, 105, 109, 105, 116, 105, 118, 101, 58, 32] ++ (Lib.itoa m.prim ++ [62])) = t := ⟨_, rfl⟩
  obtain ⟨X2, hX2⟩ : ∃ t, (if m.temps = [] then [] else [32, 124, 32] ++ (joinF [32] (fun i => m.temps.getD i []) m.temps.length ++ [32, 124])) = t := ⟨_, rfl⟩
  obtain ⟨X3, hX3⟩ : ∃ t, statsT txt m.body = t := ⟨_, rfl⟩
  have hpr : printT m = PT ++ (X1 ++ (X2 ++ ((if m.body = [] then [] else [32]) ++ X3))) := by
    rw [← hPT, ← hX1, ← hX2, ← hX3]
    rfl
  rw [hpr]
  obtain ⟨TT, hTT⟩ : ∃ t, PT ++ (X1 ++ (X2 ++ ((if m.body = [] then [] else [32]) ++ X3))) = t := ⟨_, rfl⟩
  rw [hTT]
  obtain ⟨R, hR⟩ : ∃ r, rankS m.name = r := ⟨_, rfl⟩
  have hrc := rank_cases ha0
  rw [hR] at hrc
  have HKN : Hid (∀ v, Calls Tryz.prog 47 #[.string ⟨m.name.toArray⟩] v (Done (.int .i64 (3 - R)) v)) := Lib.hid (fun v => by
    obtain ⟨h1, h2, -⟩ := ar_cases ha0
    have := rkind_any m.name (by cases hx : m.name with | nil => exact absurd hx h1 | cons a b => simp) (by omega) v
    rw [kind_rank ha0, hR] at this
    exact this)
  have hn64 : m.name.length ≤ 64 := (ar_cases ha0).2.1
  have hq64 : ∀ (i : Nat) (q : Lx.Bytes), m.params[i]? = some q → q.length ≤ 64 := fun i q h => isName_len (List.all_eq_true.1 hpn _ (List.mem_of_getElem? h))
  obtain ⟨pl, hpl⟩ : ∃ n, m.params.length = n := ⟨_, rfl⟩
  obtain ⟨tl, htl⟩ : ∃ n, m.temps.length = n := ⟨_, rfl⟩
  obtain ⟨bl, hbl⟩ : ∃ n, m.body.length = n := ⟨_, rfl⟩
  rw [hpl] at ha
  rw [hpl, htl, hbl] at hbk hw hm2
  have HRC : Hid ((R = 3 ∧ pl = 0) ∨ (R = 2 ∧ pl = 1) ∨ (R = 1 ∧ 0 < pl ∧ partsL m.name = kwA [] m.name ∧ (partsL m.name).length = pl)) := Lib.hid (by
    rcases hrc with ⟨h1, h2⟩ | ⟨h1, h2⟩ | ⟨h1, h2, h3, h4⟩
    · exact .inl ⟨h1, by omega⟩
    · exact .inr (.inl ⟨h1, by omega⟩)
    · exact .inr (.inr ⟨h1, by omega, h3, by rw [h4, ha]; omega⟩))
  have HW := Lib.hid hw
  have HX := Lib.hid hX
  have HBK := Lib.hid hbk
  have HM2 := Lib.hid hm2
  have HPT := Lib.hid hPT
  have HTT := Lib.hid hTT
  have HX1 := Lib.hid hX1
  have HX2 := Lib.hid hX2
  have HX3 := Lib.hid hX3
  have HR := Lib.hid hR
  have HGD := Lib.hid (And.intro hgd hbody)
  have HPL := Lib.hid (And.intro hpl (And.intro htl hbl))
  have HMI := Lib.hid hmild
  have HQ64 := Lib.hid hq64
  have HTN := Lib.hid htn
  have HP09 := Lib.hid (And.intro hp0 hp9)
  rw [htl] at htl15
  have c0 : w2.cell? ⟨w.heap.size, 0, none⟩ = some (.string ⟨m.name.toArray⟩) := hbk.c 0 _ rfl
  have c1 : w2.cell? ⟨w.heap.size, 1, none⟩ = some (.slice pa pl pc) := hbk.c 1 _ rfl
  unfold mtV strV
  rw [hpl, htl, hbl]
  clear hm hX hbk hw hm2 hPT hX1 hX2 hX3 hpr hTT hR hrc hgd hbody ha hp0 hp9 hpn htn hck hmild ha0 hpl htl hbl hq64
  go_enter Tryz.func17, Tryz.ntmps17
  go_upto_region 1 with fail
  rw [HW.out]
  go_upto_region 2 with fail
  go_cut [17] (fun s17 wx => ∃ c, s17 = .bool c ∧ (c = true → R = 2) ∧ (c = false → R ≠ 2) ∧ w2 = wx)
  case first =>
    rcases HRC.out with ⟨h1, h2⟩ | ⟨h1, h2⟩ | ⟨h1, h2, -, -⟩
    · have hd : decide ((0 : Int) < (pl : Int)) = false := decide_eq_false (by omega)
      have hd1 : decide (0 < pl) = false := decide_eq_false (by omega)
      have H1 := Lib.hid h1
      have H2 := Lib.hid h2
      clear h1 h2
      go_wp2_with fail
      go_meet
      exact ⟨false, by first | rfl | simp, (fun h => by cases h), (fun _ => by have := H1.out; omega), rfl⟩
    · have hd : decide ((0 : Int) < (pl : Int)) = true := decide_eq_true (by omega)
      have hd1 : decide (0 < pl) = true := decide_eq_true (by omega)
      have hk1 : ((3 - R : Int) == 1) = true := beq_iff_eq.2 (by omega)
      have H1 := Lib.hid h1
      have H2 := Lib.hid h2
      clear h1 h2
      go_wp2_with fail
      refine (HKN.out _).mono ?_; rintro e w9 ⟨rfl, rfl⟩
      go_wp2_with fail
      go_meet
      exact ⟨true, by first | rfl | simp, (fun _ => H1.out), (fun h => by cases h), rfl⟩
    · have hd : decide ((0 : Int) < (pl : Int)) = true := decide_eq_true (by omega)
      have hd1 : decide (0 < pl) = true := decide_eq_true (by omega)
      have hk1 : ((3 - R : Int) == 1) = false := beq_eq_false_iff_ne.2 (by omega)
      have H1 := Lib.hid h1
      have H2 := Lib.hid h2
      clear h1 h2
      go_wp2_with fail
      refine (HKN.out _).mono ?_; rintro e w9 ⟨rfl, rfl⟩
      go_wp2_with fail
      go_meet
      exact ⟨false, by first | rfl | simp, (fun h => by cases h), (fun _ => by have := H1.out; omega), rfl⟩
  case rest =>
  obtain ⟨cc, rfl, hc1, hc2, rfl⟩ := hcut
  go_upto_if 17 with fail
  go_cut [3] (fun s3 wx => ∃ P1 : Bytes, s3 = .string ⟨P1.toArray⟩ ∧ Hid (R ≠ 1 → P1 = PT) ∧ w2 = wx)
  case first =>
    cases cc with
    | false =>
      have HR2 := Lib.hid (hc2 rfl)
      clear hc1 hc2
      have HP1 : Hid (R ≠ 1 → m.name = PT) := Lib.hid (fun h1 => by
        have h3 : R = 3 := by
          have h2 := HR2.out
          rcases HRC.out with h | h | h
          · exact h.1
          · exact absurd h.1 h2
          · exact absurd h.1 h1
        rw [← HPT.out]
        unfold patT
        rw [if_pos (by rw [HR.out]; exact h3)])
      go_wp2_with fail
      go_meet
      exact ⟨m.name, rfl, HP1, rfl⟩
    | true =>
      have h2 := hc1 rfl
      have hp1 : pl = 1 := by
        rcases HRC.out with h | h | h
        · have := h.1; omega
        · exact h.2
        · have := h.1; omega
      clear hc1 hc2
      obtain ⟨g2, o2, q, hx0, hq, hg2, hcq⟩ := HM2.out.params.at_ 0 (by omega)
      subst hx0
      unfold strV at hcq
      rw [Nat.add_zero] at hcq
      have hq6 := HQ64.out 0 q hq
      have HP1 : Hid (R ≠ 1 → m.name ++ ([32] ++ q) = PT) := Lib.hid (fun _ => by
        rw [← HPT.out]
        unfold patT
        rw [if_neg (by rw [HR.out]; omega), if_pos (by rw [HR.out]; exact h2), List.getD_eq_getElem?_getD, hq]
        rfl)
      have hcat1 : (⟨m.name.toArray⟩ : ByteArray) ++ ⟨#[32]⟩ = ⟨(m.name ++ [32]).toArray⟩ := cat_b m.name [32]
      have hle1 : (m.name ++ [32]).length = m.name.length + 1 := by simp
      have hpl1 : (0 : Int) < (pl : Int) := by omega
      have hpl2 : 0 < pl := by omega
      have H2 := Lib.hid h2
      have H3 := Lib.hid hp1
      clear h2 hp1 hq
      go_wp2_with fail
      go_meet
      exact ⟨m.name ++ ([32] ++ q), by first | rfl | (simp; done) | (simp; exact cat3 _ [32] _), HP1, rfl⟩
  case rest =>
  obtain ⟨P1, rfl, hP1, rfl⟩ := hcut
  go_upto_if 28 with (refine (HKN.out _).mono ?_; rintro e w9 ⟨rfl, rfl⟩)
  go_cut [3] (fun s3 wx => s3 = .string ⟨PT.toArray⟩ ∧ Below w2.heap.size w2 wx)
  case first =>
    by_cases hR1 : R = 1
    case neg =>
      have hk1 : ((3 - R : Int) == 2) = false := beq_eq_false_iff_ne.2 (by omega)
      have hP := hP1.out hR1
      have HR1 := Lib.hid hR1
      subst hP
      clear hR1
      go_wp2_with fail
      go_meet
      exact ⟨rfl, Below.refl _ _⟩
    have hk1 : ((3 - R : Int) == 2) = true := beq_iff_eq.2 (by omega)
    obtain ⟨N, hN⟩ : ∃ n, pl = n := ⟨_, rfl⟩
    subst hN
    have hparts : partsL m.name = kwA [] m.name ∧ (partsL m.name).length = pl ∧ 0 < pl := by
      rcases HRC.out with h | h | h
      · have := h.1; omega
      · have := h.1; omega
      · exact ⟨h.2.2.1, h.2.2.2, h.2.1⟩
    have hkc : (kwC m.name).length = pl := by unfold kwC; rw [List.length_map, ← hparts.1, hparts.2.1]
    have HKY := rkeys_any m.name w2 (by omega)
    rw [hkc] at HKY
    unfold strV at HKY
    obtain ⟨L2, hL2⟩ : ∃ l : List Bytes, l = (List.range pl).map (fun i => (partsL m.name).getD i [] ++ ([58, 32] ++ m.params.getD i [])) := ⟨_, rfl⟩
    have hl2 : L2.length = pl := by rw [hL2]; simp
    have hPTJ : joinF [32] (fun i => L2.getD i []) L2.length = PT := by
      rw [← HPT.out]
      unfold patT
      rw [if_neg (by rw [HR.out]; omega), if_neg (by rw [HR.out]; omega), hl2]
      unfold spreadT
      rw [hparts.2.1]
      refine joinF_congr _ _ _ _ (fun i hi => ?_)
      rw [hL2, List.getD_eq_getElem?_getD, List.getElem?_map, List.getElem?_range hi]
      rfl
    have hkw9 : ∀ (i : Nat) (P : Lx.Bytes), (kwC m.name)[i]? = some P → P = (partsL m.name).getD i [] ++ [58] := fun i P h => by
      unfold kwC at h
      rw [← hparts.1, List.getElem?_map] at h
      obtain ⟨q, hq, rfl⟩ := Option.map_eq_some_iff.1 h
      rw [List.getD_eq_getElem?_getD, hq]
      rfl
    have hpt64 : ∀ (i : Nat) (P : Lx.Bytes), (kwC m.name)[i]? = some P → P.length ≤ 65 := fun i P h => by
      unfold kwC at h
      rw [List.getElem?_map] at h
      obtain ⟨q, hq, rfl⟩ := Option.map_eq_some_iff.1 h
      have := kwA_size m.name [] q (List.mem_of_getElem? hq)
      simp at this ⊢
      omega
    have HK9 := Lib.hid hkw9
    have HP64 := Lib.hid hpt64
    have HL2 := Lib.hid hL2
    have HLL := Lib.hid hl2
    have HPTJ := Lib.hid hPTJ
    have HKC := Lib.hid hkc
    have hpl0 := hparts.2.2
    replace HKY := Lib.hid HKY
    have hpl2 : pl ≤ 1000 := by have := hparts.2.1; rw [hparts.1, kwA_len] at this; have := List.count_le_length (a := (58 : UInt8)) (l := m.name); omega
    have HR1 := Lib.hid hR1
    clear hP1 hR1 hparts hkc hL2 hl2 hPTJ hkw9 hpt64
    go_wp2_with fail
    refine HKY.out.mono ?_; rintro e w3 ⟨hb3, vk, rfl, hown⟩
    obtain ⟨gg, cap, rfl, hgB, hgl, hgf, hrd0, hpc0⟩ : ∃ g cap, vk = .slice (some ⟨g, 0, none⟩) pl cap ∧ w2.heap.size ≤ g ∧ g < w3.heap.size ∧ (∀ i, w3.frozen? ⟨g, i, none⟩ = false) ∧ Rd (fun b => b = g) strV w3 (.slice (some ⟨g, 0, none⟩) pl cap) (kwC m.name) ∧ pl ≤ cap := by
      have h0 := hown
      have hlt := hown.lt
      have hrd := Rd.of (show w3.ownsRow w2.heap.size ST 1 vk (kwC m.name).length ((kwC m.name).map strV) by rw [HKC.out]; exact hown)
      rcases hown.2 with ⟨_, h⟩ | ⟨g, cap, cur, rfl, h1, h2, h3, h4, _⟩
      · omega
      · refine ⟨g, cap, rfl, h1, (hlt g rfl).2, fun i => by simp [World.frozen?, h2], ?_, h3⟩
        obtain ⟨a', c', e1, e2, e3, e4, e5⟩ := hrd
        cases e1
        refine ⟨_, _, rfl, e2, e3, e4, fun hl => ?_⟩
        obtain ⟨b, off, k1, k0, k2, k3⟩ := e5 hl
        cases k1
        exact ⟨_, _, rfl, rfl, k2, k3⟩
    have HB3 := Lib.hid hb3
    have HRD0 := Lib.hid hrd0
    have hrp := (HM2.out.params.below hb3)
    have HRP := Lib.hid hrp
    have c1' : w3.cell? ⟨w.heap.size, 1, none⟩ = some (.slice pa pl pc) := (HBK.out.below hb3 HBK.out.lt).c 1 _ rfl
    have HC1 := Lib.hid c1'
    have HGF := Lib.hid hgf
    clear hb3 hown hrd0 hrp c0 c1 c1' hgf
    go_wp2_with fail
    go_loopw [5] (fun y wr => ∃ (k : Nat), y = .int .i64 (k : Int) ∧ k ≤ pl ∧ Hid (Rd (fun b => b = gg) strV wr (.slice (some ⟨gg, 0, none⟩) pl cap) (L2.take k ++ (kwC m.name).drop k)) ∧ But (fun b => b = gg) w3 wr ∧ ∀ i, wr.frozen? ⟨gg, i, none⟩ = false) (fun y _ => pl - (intOf y).toNat)
    case atStart => exact ⟨0, rfl, Nat.zero_le _, Lib.hid (by simpa using HRD0.out), But.refl _ _, HGF.out⟩
    case round =>
      obtain ⟨k, rfl, hk, hrd, hbt, hfz⟩ := hrel
      by_cases hkn : k < pl
      · have hdec : decide ((k : Int) < (pl : Int)) = true := decide_eq_true (by omega)
        have hkw : IntKind.i64.wrap ((k : Int) + 1) = (k : Int) + 1 := IntWalk.i64_in _ (by omega)
        have hkn1 : (k : Int) < (pl : Int) := by omega
        have hk0 : 0 ≤ (k : Int) := by omega
        have hbk3 := hbt.blk (HBK.out.below HB3.out HBK.out.lt) (by omega)
        have hrp := HRP.out.kp (w' := wr) ⟨hbt.size, fun b hb hl => hbt.block b hl (by omega)⟩
        obtain ⟨g2, o2, q, hx0, hq, hg2, hcq⟩ := hrp.at_ k hkn
        subst hx0
        unfold strV at hcq
        obtain ⟨g3, o3, P, hx1, hP, hg3, hcp⟩ := hrd.out.at_ k hkn
        cases hx1
        unfold strV at hcp
        rw [Nat.zero_add] at hcp
        have htl2 : (L2.take k).length = k := by rw [List.length_take, HLL.out]; omega
        have hPK : (kwC m.name)[k]? = some P := by
          rw [List.getElem?_append_right (by omega), htl2, Nat.sub_self, List.getElem?_drop] at hP
          simpa using hP
        have hPP := HK9.out k P hPK
        have hP6 := HP64.out k P hPK
        have hq6 := HQ64.out k q hq
        have hNL : L2[k]? = some (P ++ ([32] ++ q)) := by
          rw [HL2.out, List.getElem?_map, List.getElem?_range hkn]
          show some ((partsL m.name).getD k [] ++ ([58, 32] ++ m.params.getD k [])) = _
          rw [hPP, List.getD_eq_getElem?_getD (l := m.params), hq]
          simp
        have hnew : (L2.take k ++ (kwC m.name).drop k).set k (P ++ ([32] ++ q)) = L2.take (k + 1) ++ (kwC m.name).drop (k + 1) := by
          have hdk : (kwC m.name).drop k = P :: (kwC m.name).drop (k + 1) := by
            have hh := List.getElem?_eq_some_iff.1 hPK
            rw [List.drop_eq_getElem_cons hh.1, hh.2]
          rw [hdk, List.set_append_right _ _ (by omega), htl2, Nat.sub_self, List.set_cons_zero, List.take_add_one, hNL]
          simp
        have hS : Hid ((fun v : World => v.cell? ⟨w.heap.size, 1, none⟩ = some (.slice (some ⟨g2, o2, none⟩) pl pc) ∧ v.cell? ⟨gg, k, none⟩ = some (.string ⟨P.toArray⟩) ∧ v.cell? ⟨g2, o2 + k, none⟩ = some (.string ⟨q.toArray⟩)) wr.drew) := Lib.hid ⟨hbk3.c 1 _ rfl, hcp, hcq⟩
        have HRDK := Lib.hid hrd.out
        have HBT := Lib.hid hbt
        have HFZ := Lib.hid hfz
        have HNEW := Lib.hid hnew
        have hglr : gg < wr.heap.size := by have := hbt.size; omega
        have hcat1 : (⟨P.toArray⟩ : ByteArray) ++ ⟨#[32]⟩ = ⟨(P ++ [32]).toArray⟩ := cat_b P [32]
        have hle1 : (P ++ [32]).length = P.length + 1 := by simp
        clear hbk3 hrp hq hP htl2 hPK hPP hNL hnew hrd hbt hcq
        go_upto_region 9 with fail
        refine wp_region_noPanic ?_
        refine Hd.start (fun v => v.cell? ⟨w.heap.size, 1, none⟩ = some (.slice (some ⟨g2, o2, none⟩) pl pc) ∧ v.cell? ⟨gg, k, none⟩ = some (.string ⟨P.toArray⟩) ∧ v.cell? ⟨g2, o2 + k, none⟩ = some (.string ⟨q.toArray⟩)) (by kernel_rfl) hS.out (fun hH0 => ?_)
        refine Hd.take 0 13 (oi := ?_) (v := ?_) ?_ (by kernel_rfl) (fun _ _ _ h => h) hH0 ?_ ?_ ?_
        rotate_left 2
        · simp only [List.getElem?_toArray, List.getElem?_cons_zero]
          exact rfl
        · rfl
        · intro w hSw
          (try dsimp only at hSw)
          go_simp
          try with_reducible rfl
        try simp only [Act.put, List.setIfInBounds_toArray, List.set_cons_zero, List.set_cons_succ]
        refine Hd.take 1 13 (oi := ?_) (v := ?_) ?_ (by kernel_rfl) (fun _ _ _ h => h) hH0 ?_ ?_ ?_
        rotate_left 2
        · simp only [List.getElem?_toArray, List.getElem?_cons_succ, List.getElem?_cons_zero]
          exact rfl
        · rfl
        · intro w hSw
          (try dsimp only at hSw)
          go_simp
          try with_reducible rfl
        try simp only [Act.put, List.setIfInBounds_toArray, List.set_cons_zero, List.set_cons_succ]
        refine Hd.take 2 4 (oi := ?_) (v := ?_) ?_ (by kernel_rfl) (fun _ _ _ h => h) hH0 ?_ ?_ ?_
        rotate_left 2
        · simp only [List.getElem?_toArray, List.getElem?_cons_succ, List.getElem?_cons_zero]
          exact rfl
        · rfl
        · intro w hSw
          (try dsimp only at hSw)
          go_simp
          try with_reducible rfl
        try simp only [Act.put, List.setIfInBounds_toArray, List.set_cons_zero, List.set_cons_succ]
        refine Hd.take 3 4 (oi := ?_) (v := ?_) ?_ (by kernel_rfl) (fun _ _ _ h => h) hH0 ?_ ?_ ?_
        rotate_left 2
        · simp only [List.getElem?_toArray, List.getElem?_cons_succ, List.getElem?_cons_zero]
          exact rfl
        · rfl
        · intro w hSw
          (try dsimp only at hSw)
          go_simp
          try with_reducible rfl
        try simp only [Act.put, List.setIfInBounds_toArray, List.set_cons_zero, List.set_cons_succ]
        refine Hd.take 4 5 (oi := ?_) (v := ?_) ?_ (by kernel_rfl) (fun _ _ _ h => h) hH0 ?_ ?_ ?_
        rotate_left 2
        · simp only [List.getElem?_toArray, List.getElem?_cons_succ, List.getElem?_cons_zero]
          exact rfl
        · rfl
        · intro w hSw
          (try dsimp only at hSw)
          go_simp
          try with_reducible rfl
        try simp only [Act.put, List.setIfInBounds_toArray, List.set_cons_zero, List.set_cons_succ]
        refine Hd.take 5 6 (oi := ?_) (v := ?_) ?_ (by kernel_rfl) (fun _ _ _ h => h) hH0 ?_ ?_ ?_
        rotate_left 2
        · simp only [List.getElem?_toArray, List.getElem?_cons_succ, List.getElem?_cons_zero]
          exact rfl
        · rfl
        · intro w hSw
          (try dsimp only at hSw)
          go_simp
          try with_reducible rfl
        try simp only [Act.put, List.setIfInBounds_toArray, List.set_cons_zero, List.set_cons_succ]
        refine Hd.take 6 12 (oi := ?_) (v := ?_) ?_ (by kernel_rfl) (fun _ _ _ h => h) hH0 ?_ ?_ ?_
        rotate_left 2
        · simp only [List.getElem?_toArray, List.getElem?_cons_succ, List.getElem?_cons_zero]
          exact rfl
        · rfl
        · intro w hSw
          (try dsimp only at hSw)
          go_simp
          rw [if_neg (by (try simp only [List.length_append, List.length_cons, List.length_nil]); omega)]
        try simp only [Act.put, List.setIfInBounds_toArray, List.set_cons_zero, List.set_cons_succ]
        refine Hd.take 7 8 (oi := ?_) (v := ?_) ?_ (by kernel_rfl) (fun _ _ _ h => h) hH0 ?_ ?_ ?_
        rotate_left 2
        · simp only [List.getElem?_toArray, List.getElem?_cons_succ, List.getElem?_cons_zero]
          exact rfl
        · rfl
        · intro w hSw
          (try dsimp only at hSw)
          go_simp
          try with_reducible rfl
        try simp only [Act.put, List.setIfInBounds_toArray, List.set_cons_zero, List.set_cons_succ]
        refine Hd.take 8 10 (oi := ?_) (v := ?_) ?_ (by kernel_rfl) (fun _ _ _ h => h) hH0 ?_ ?_ ?_
        rotate_left 2
        · simp only [List.getElem?_toArray, List.getElem?_cons_succ, List.getElem?_cons_zero]
          exact rfl
        · rfl
        · intro w hSw
          (try dsimp only at hSw)
          go_simp
          try with_reducible rfl
        try simp only [Act.put, List.setIfInBounds_toArray, List.set_cons_zero, List.set_cons_succ]
        refine Hd.take 9 10 (oi := ?_) (v := ?_) ?_ (by kernel_rfl) (fun _ _ _ h => h) hH0 ?_ ?_ ?_
        rotate_left 2
        · simp only [List.getElem?_toArray, List.getElem?_cons_succ, List.getElem?_cons_zero]
          exact rfl
        · rfl
        · intro w hSw
          (try dsimp only at hSw)
          go_simp
          try with_reducible rfl
        try simp only [Act.put, List.setIfInBounds_toArray, List.set_cons_zero, List.set_cons_succ]
        refine Hd.take 10 11 (oi := ?_) (v := ?_) ?_ (by kernel_rfl) (fun _ _ _ h => h) hH0 ?_ ?_ ?_
        rotate_left 2
        · simp only [List.getElem?_toArray, List.getElem?_cons_succ, List.getElem?_cons_zero]
          exact rfl
        · rfl
        · intro w hSw
          (try dsimp only at hSw)
          go_simp
          try with_reducible rfl
        try simp only [Act.put, List.setIfInBounds_toArray, List.set_cons_zero, List.set_cons_succ]
        refine Hd.take 11 12 (oi := ?_) (v := ?_) ?_ (by kernel_rfl) (fun _ _ _ h => h) hH0 ?_ ?_ ?_
        rotate_left 2
        · simp only [List.getElem?_toArray, List.getElem?_cons_succ, List.getElem?_cons_zero]
          exact rfl
        · rfl
        · intro w hSw
          (try dsimp only at hSw)
          go_simp
          try with_reducible rfl
        try simp only [Act.put, List.setIfInBounds_toArray, List.set_cons_zero, List.set_cons_succ]
        refine Hd.take 12 14 (oi := ?_) (v := ?_) ?_ (by kernel_rfl) (fun _ _ _ h => h) hH0 ?_ ?_ ?_
        rotate_left 2
        · simp only [List.getElem?_toArray, List.getElem?_cons_succ, List.getElem?_cons_zero]
          exact rfl
        · rfl
        · intro w hSw
          (try dsimp only at hSw)
          go_simp
          rw [if_neg (by (try simp only [List.length_append, List.length_cons, List.length_nil]); omega)]
        try simp only [Act.put, List.setIfInBounds_toArray, List.set_cons_zero, List.set_cons_succ]
        refine Hd.take 13 14 (oi := ?_) (v := ?_) ?_ (by kernel_rfl) (fun _ _ _ h => h) hH0 ?_ ?_ ?_
        rotate_left 2
        · simp only [List.getElem?_toArray, List.getElem?_cons_succ, List.getElem?_cons_zero]
          exact rfl
        · rfl
        · intro w hSw
          (try dsimp only at hSw)
          go_simp
          try with_reducible rfl
        try simp only [Act.put, List.setIfInBounds_toArray, List.set_cons_zero, List.set_cons_succ]
        refine Hd.last 14 (o := ?_) ?_ (by kernel_rfl) (by kernel_rfl) (by kernel_rfl) (fun K hK => ?_)
        rotate_left 1
        · simp only [List.getElem?_toArray, List.getElem?_cons_succ, List.getElem?_cons_zero]
          exact rfl
        go_simp
        generalize hwv : World.drew _ = x7
        have hval : ∀ A : ByteArray, A = ⟨(P ++ ([32] ++ q)).toArray⟩ → (wr.setCell ⟨gg, k, none⟩ (.string A)).drew = x7 → Rd (fun b => b = gg) strV x7 (.slice (some ⟨gg, 0, none⟩) pl cap) (L2.take (k + 1) ++ (kwC m.name).drop (k + 1)) ∧ But (fun b => b = gg) w3 x7 ∧ ∀ i, x7.frozen? ⟨gg, i, none⟩ = false := fun A hA e => by
          subst hA
          rw [← e, ← HNEW.out]
          have hb := (HBT.out.set_ (k := gg) rfl k (strV (P ++ ([32] ++ q))))
          refine ⟨HRDK.out.put k hkn _, ⟨hb.os, hb.tape, hb.output, hb.size, hb.block⟩, fun i => ?_⟩
          exact (frz_set _ _ _ _ _).trans (HFZ.out i)
        obtain ⟨n1, n2, n3⟩ := hval _ (by first | rfl | (simp; done) | exact cat3 _ [32] _ | (rw [cat_b]; simp)) hwv
        have N1 := Lib.hid n1
        have N2 := Lib.hid n2
        clear hval n1 n2 hwv
        refine hK.out _ _ ?_
        clear hK K
        try simp only [Act.put, List.setIfInBounds_toArray, List.set_cons_zero, List.set_cons_succ]
        simp only [NoPanic]
        go_wp2_with fail
        exact ⟨⟨k + 1, by simp, by omega, N1, N2.out, n3⟩, by simp only [intOf]; omega⟩
      · obtain rfl : k = pl := by omega
        have hdec : decide ((k : Int) < (k : Int)) = false := by simp
        have hall : L2.take k ++ (kwC m.name).drop k = L2 := by rw [List.take_of_length_le (by rw [HLL.out]; exact Nat.le_refl _), List.drop_eq_nil_of_le (by rw [HKC.out]; exact Nat.le_refl _), List.append_nil]
        rw [hall] at hrd
        have HJ := rjoin_any L2 [32] _ wr hrd.out (by rw [HPTJ.out]; omega)
        rw [HPTJ.out] at HJ
        unfold strV at HJ
        replace HJ := Lib.hid HJ
        have HBE := Lib.hid (HB3.out.trans (hbt.bel (B := w2.heap.size) (fun b hb => by omega) HB3.out.size))
        clear hall hrd hbt
        go_wp2_with fail
        refine HJ.out.mono ?_; rintro e w9 ⟨rfl, rfl⟩
        go_wp2_with fail
        go_meet
        exact ⟨rfl, HBE.out⟩
  case rest =>
  obtain ⟨rfl, hb⟩ := hcut
  have hp9 := HP09.out.2
  have hp0 := HP09.out.1
  have c3 : wc.cell? ⟨w.heap.size, 3, none⟩ = some (.int .i64 m.prim) := (HBK.out.below hb HBK.out.lt).c 3 _ rfl
  have HX1L : Hid (X1.length ≤ 100) := Lib.hid (by
    rw [← HX1.out]
    have := itoa_len m.prim (by omega) (by omega)
    split
    · simp
    · simp; omega)
  have HBB := Lib.hid hb
  clear hb c0 c1
  go_upto_if 56 with fail
  go_cut [3] (fun s3 wx => s3 = .string ⟨(PT ++ X1).toArray⟩ ∧ Below w2.heap.size w2 wx)
  case first =>
    by_cases h0 : m.prim = 0
    · have hd : decide (0 < m.prim) = false := decide_eq_false (by omega)
      have hpI : ¬ 0 < m.prim := by omega
      have hx : PT = PT ++ X1 := by rw [← HX1.out, if_pos h0, List.append_nil]
      have HX9 := Lib.hid hx
      have H0 := Lib.hid h0
      clear hx h0
      go_wp2_with fail
      go_meet
      exact ⟨by rw [← HX9.out], HBB.out⟩
    · have hd : decide (0 < m.prim) = true := decide_eq_true (by omega)
      have hpI : 0 < m.prim := by omega
      have hil := itoa_len m.prim (by omega) (by omega)
      have HC := Lx.Rt.rtext_any m.prim wc (by omega) (by omega)
      obtain ⟨IT, hIT⟩ : ∃ t, Lib.itoa m.prim = t := ⟨_, rfl⟩
      rw [hIT] at HC hil
      have hx : PT ++ ([32, 60, 112, 114, 105, 109, 105, 116, 105, 118, 101, 58, 32] ++ (IT ++ [62])) = PT ++ X1 := by rw [← HX1.out, if_neg h0, hIT]
      have HX9 := Lib.hid hx
      replace HC := Lib.hid HC
      have hcat1 : (⟨PT.toArray⟩ : ByteArray) ++ ⟨#[32, 60, 112, 114, 105, 109, 105, 116, 105, 118, 101, 58, 32]⟩ = ⟨(PT ++ [32, 60, 112, 114, 105, 109, 105, 116, 105, 118, 101, 58, 32]).toArray⟩ := cat_b PT _
      obtain ⟨Q, hQ⟩ : ∃ q, PT ++ [32, 60, 112, 114, 105, 109, 105, 116, 105, 118, 101, 58, 32] = q := ⟨_, rfl⟩
      have hql : Q.length = PT.length + 13 := by rw [← hQ]; simp
      rw [hQ] at hcat1
      have hcat2 : (⟨Q.toArray⟩ : ByteArray) ++ ⟨IT.toArray⟩ = ⟨(Q ++ IT).toArray⟩ := cat_b Q IT
      have hle2 : (Q ++ IT).length = Q.length + IT.length := by simp
      have HQQ := Lib.hid hQ
      clear hx h0 hIT hQ
      go_wp2_with fail
      refine HC.out.mono ?_; rintro e w9 ⟨rfl, hbd⟩
      have HB9 := Lib.hid (HBB.out.trans (hbd.mono HBB.out.size))
      clear hbd
      go_wp2_with fail
      go_meet
      exact ⟨by rw [← HX9.out]; first | rfl | (simp; done) | exact congrArg Value.string (cat4 PT [32, 60, 112, 114, 105, 109, 105, 116, 105, 118, 101, 58, 32] IT [62]) | exact congrArg Value.string (by rw [← hcat1] ; exact cat4 PT [32, 60, 112, 114, 105, 109, 105, 116, 105, 118, 101, 58, 32] IT [62]) | (rw [cat_b, ← HQQ.out]; simp), HB9.out⟩
  case rest =>
  obtain ⟨rfl, hb⟩ := hcut
  have c2 : wc.cell? ⟨w.heap.size, 2, none⟩ = some (.slice ta tl tc) := (HBK.out.below hb HBK.out.lt).c 2 _ rfl
  have HX1L2 := HX1L.out
  obtain ⟨PX, hPX⟩ : ∃ t, PT ++ X1 = t := ⟨_, rfl⟩
  have hpx : PX.length ≤ 20100 := by rw [← hPX, List.length_append]; omega
  rw [hPX]
  have HPX := Lib.hid hPX
  have hmt := HM2.out.bel hb
  have hJT := joinF_names m.temps HTN.out
  have HX2L : Hid (X2.length ≤ 2000) := Lib.hid (by
    rw [← HX2.out]
    have h2 := HPL.out.2.1
    split
    · simp
    · simp only [List.length_append, List.length_cons, List.length_nil]; omega)
  have HBB2 := Lib.hid hb
  replace hmt := Lib.hid hmt
  clear hb hPX c3 HX1L2
  go_upto_if 67 with fail
  go_cut [3] (fun s3 wx => s3 = .string ⟨(PX ++ X2).toArray⟩ ∧ Below w2.heap.size w2 wx)
  case first =>
    by_cases h0 : tl = 0
    · have hd : decide ((0 : Int) < (tl : Int)) = false := decide_eq_false (by omega)
      have hd1 : decide (0 < tl) = false := decide_eq_false (by omega)
      have hpI : ¬ 0 < tl := by omega
      have hx : PX = PX ++ X2 := by
        have h2 := HPL.out.2.1
        rw [← HX2.out, if_pos (List.eq_nil_of_length_eq_zero (by omega)), List.append_nil]
      have HX9 := Lib.hid hx
      have H0 := Lib.hid h0
      clear hx h0 hJT
      go_wp2_with fail
      go_meet
      exact ⟨by rw [← HX9.out], HBB2.out⟩
    · have hd : decide ((0 : Int) < (tl : Int)) = true := decide_eq_true (by omega)
      have hd1 : decide (0 < tl) = true := decide_eq_true (by omega)
      have hpI : 0 < tl := by omega
      have HC := rjoin_any m.temps [32] _ wc hmt.out.temps (by have h2 := HPL.out.2.1; omega)
      obtain ⟨JT, hJ⟩ : ∃ t, joinF [32] (fun i => m.temps.getD i []) m.temps.length = t := ⟨_, rfl⟩
      have hjl : JT.length ≤ 1000 := by rw [← hJ]; have h2 := HPL.out.2.1; omega
      rw [hJ] at HC
      unfold strV at HC
      have hx : PX ++ ([32, 124, 32] ++ (JT ++ [32, 124])) = PX ++ X2 := by
        rw [← HX2.out, if_neg (fun e => by have h2 := HPL.out.2.1; rw [e] at h2; exact h0 h2.symm), hJ]
      have HX9 := Lib.hid hx
      replace HC := Lib.hid HC
      have hcat1 : (⟨PX.toArray⟩ : ByteArray) ++ ⟨#[32, 124, 32]⟩ = ⟨(PX ++ [32, 124, 32]).toArray⟩ := cat_b PX _
      obtain ⟨Q, hQ⟩ : ∃ q, PX ++ [32, 124, 32] = q := ⟨_, rfl⟩
      have hql : Q.length = PX.length + 3 := by rw [← hQ]; simp
      rw [hQ] at hcat1
      have hcat2 : (⟨Q.toArray⟩ : ByteArray) ++ ⟨JT.toArray⟩ = ⟨(Q ++ JT).toArray⟩ := cat_b Q JT
      have hle2 : (Q ++ JT).length = Q.length + JT.length := by simp
      have HQQ := Lib.hid hQ
      have H0 := Lib.hid h0
      clear hx h0 hJ hQ hJT
      go_wp2_with fail
      refine HC.out.mono ?_; rintro e w9 ⟨rfl, rfl⟩
      go_wp2_with fail
      go_meet
      exact ⟨by rw [← HX9.out]; first | rfl | (simp; done) | exact congrArg Value.string (cat4 PX [32, 124, 32] JT [32, 124]) | exact congrArg Value.string (by rw [← hcat1] ; exact cat4 PX [32, 124, 32] JT [32, 124]) | (rw [cat_b, ← HQQ.out]; simp), HBB2.out⟩
  case rest =>
  obtain ⟨rfl, hb⟩ := hcut
  have c4 : wc.cell? ⟨w.heap.size, 4, none⟩ = some (.slice ba bl bc) := (HBK.out.below hb HBK.out.lt).c 4 _ rfl
  have hmb := (HM2.out.bel hb).body.mono (S' := fun _ => True) (fun _ _ _ => trivial)
  obtain ⟨PY, hPY⟩ : ∃ t, PX ++ X2 = t := ⟨_, rfl⟩
  have hpy : PY.length ≤ 22200 := by rw [← hPY, List.length_append]; have := HX2L.out; omega
  rw [hPY]
  have HTX : Hid (TT = PY ++ ((if m.body = [] then [] else [32]) ++ X3)) := Lib.hid (by rw [← HTT.out, ← hPY, ← HPX.out]; simp)
  have HB5 := Lib.hid (HX.out.trans (hb.mono HX.out.size))
  have hX3 := HX3.out
  have hX3L : X3.length ≤ 900000000 := by
    have h1 := join_len [46, 32] (fun i => (txt (m.body.getD i nd0)).1) 0 (fun i => tlen (m.body.getD i nd0)) m.body.length (fun i hi => by have := (t_le (m.body.getD i nd0)).1; omega)
    have h2 := sum_get m.body m.body.length
    have h3 := sum_le m.body (fun y hy => (HGD.out.1 y hy).len)
    have h4 := HMI.out.few
    have h5 := HMI.out.len
    rw [← hX3]
    unfold statsT
    simp only [List.length_cons, List.length_nil] at h1
    omega
  clear hb hPY c2
  go_upto_if 78 with fail
  by_cases h0 : bl = 0
  · have hd : decide ((0 : Int) < (bl : Int)) = false := decide_eq_false (by omega)
    have hd1 : decide (0 < bl) = false := decide_eq_false (by omega)
    have hpI : ¬ 0 < bl := by omega
    have hbn : m.body = [] := List.eq_nil_of_length_eq_zero (by rw [HPL.out.2.2]; exact h0)
    have HF : Hid (TT = PY) := Lib.hid (by rw [HTX.out, if_pos hbn, ← hX3, hbn]; unfold statsT; simp [joinF_zero])
    have H0 := Lib.hid h0
    clear h0 hbn hX3
    go_wp2_with fail
    go_ret
    exact ⟨by rw [HF.out]; first | rfl | simp, HB5.out⟩
  · have hd : decide ((0 : Int) < (bl : Int)) = true := decide_eq_true (by omega)
    have hd1 : decide (0 < bl) = true := decide_eq_true (by omega)
    have hpI : 0 < bl := by omega
    have hbn : ¬ m.body = [] := fun e => by have h2 := HPL.out.2.2; rw [e] at h2; exact h0 h2.symm
    have HF : Hid (TT = PY ++ ([32] ++ X3)) := Lib.hid (by rw [HTX.out, if_neg hbn])
    have hrs : ∀ y ∈ m.body, RSp y := fun y hy => by
      have hg := HGD.out.1 y hy
      exact (rall _ y (Nat.lt_succ_self _) hg (by have := cnt_mem hy; have := HMI.out.few; omega)).1 (body_ne _ HGD.out.2 y hy) (HHO.out y hy)
    have HSP := rspells_any m.body (by have := HMI.out.len; omega) hrs _ wc hmb
    have hst : X3 = joinF [46, 32] (fun i => (m.body.map (fun y => (txt y).1)).getD i []) (m.body.map (fun y => (txt y).1)).length := by
      rw [← hX3, List.length_map]
      unfold statsT
      refine joinF_congr _ _ _ _ (fun i hi => ?_)
      rw [List.getD_eq_getElem?_getD, List.getD_eq_getElem?_getD, List.getElem?_map, List.getElem?_eq_getElem (by omega)]
      rfl
    have HST := Lib.hid hst
    replace HSP := Lib.hid HSP
    have hcat1 : (⟨PY.toArray⟩ : ByteArray) ++ ⟨#[32]⟩ = ⟨(PY ++ [32]).toArray⟩ := cat_b PY _
    have hle1 : (PY ++ [32]).length = PY.length + 1 := by simp
    have H0 := Lib.hid h0
    have HXL := Lib.hid hX3L
    clear h0 hbn hX3 hrs hst hmb hX3L
    go_wp2_with fail
    refine HSP.out.mono ?_; rintro e w9 ⟨hb9, v9, rfl, hown9⟩
    have hrd9 := rd_row hown9 (by rw [List.length_map])
    have HJ9 := rjoin_any _ [46, 32] _ w9 hrd9 (by rw [← HST.out]; have := HXL.out; omega)
    rw [← HST.out] at HJ9
    unfold strV at HJ9
    replace HJ9 := Lib.hid HJ9
    have HB9 := Lib.hid (HB5.out.trans (hb9.mono HB5.out.size))
    have hxl := HXL.out
    clear hb9 hown9 hrd9
    go_wp2_with fail
    refine HJ9.out.mono ?_; rintro e w10 ⟨rfl, rfl⟩
    go_wp2_with fail
    go_ret
    exact ⟨by rw [HF.out]; first | rfl | (simp; done) | (simp; exact cat3 PY [32] X3), HB9.out⟩
end Tr
end Go.Proofs.YtfbhokdcnjekiaaGreatDoor
namespace Go.Proofs.YtfbhokdcnjekiaaGreatDoor
open Go.RowKit
namespace Tr
open Bs Sm
set_option maxRecDepth 100000 in
set_option maxHeartbeats 3200000 in
theorem Told_law (m : Mt) (hmild : Mild m.body) (pv tv bv : Value) (w : World) (hm : MtAt (fun _ => True) w m pv tv bv) :
    Calls Tryz.prog 19 #[mtV m pv tv bv] w (fun e w' => Below w.heap.size w w' ∧ ∃ bv', e = .returned (mtV m pv tv bv') ∧ MtAt (fun _ => True) w' m pv tv bv') := by
  obtain ⟨pa, pc, ta, tc, ba, bc, rfl, rfl, rfl⟩ := hm.form
  obtain ⟨pl, hpl⟩ : ∃ n, m.params.length = n := ⟨_, rfl⟩
  obtain ⟨tl, htl⟩ : ∃ n, m.temps.length = n := ⟨_, rfl⟩
  obtain ⟨bl, hbl⟩ : ∃ n, m.body.length = n := ⟨_, rfl⟩
  rw [hpl, htl, hbl] at hm ⊢
  have hX := alloc_bel w (.cells #[.string ⟨m.name.toArray⟩, .slice pa pl pc, .slice ta tl tc, .int .i64 m.prim, .slice ba bl bc, .int .i64 m.at_] 30)
  have hkx := Blk.made (T := 30) (cs := #[.string ⟨m.name.toArray⟩, .slice pa pl pc, .slice ta tl tc, .int .i64 m.prim, .slice ba bl bc, .int .i64 m.at_]) w
  obtain ⟨w1, hw1⟩ : ∃ v, w.alloc (.cells #[.string ⟨m.name.toArray⟩, .slice pa pl pc, .slice ta tl tc, .int .i64 m.prim, .slice ba bl bc, .int .i64 m.at_] 30) = v := ⟨_, rfl⟩
  rw [hw1] at hX hkx
  have hY := alloc_bel w1 (.cells #[.string ⟨#[]⟩, .slice none 0 0, .slice none 0 0, .int .i64 0, .slice none 0 0, .int .i64 0] 25)
  have hkr := Blk.made (T := 25) (cs := #[.string ⟨#[]⟩, .slice none 0 0, .slice none 0 0, .int .i64 0, .slice none 0 0, .int .i64 0]) w1
  obtain ⟨w2, hw2⟩ : ∃ v, w1.alloc (.cells #[.string ⟨#[]⟩, .slice none 0 0, .slice none 0 0, .int .i64 0, .slice none 0 0, .int .i64 0] 25) = v := ⟨_, rfl⟩
  have hsz : w1.heap.size = w.heap.size + 1 := by rw [← hw1]; simp
  rw [hw2] at hY hkr
  rw [hsz] at hkr
  have hXY := hX.trans (hY.mono hX.size)
  have hkx2 := hkx.below hY hkx.lt
  have hmw := hm.mono (S' := fun b => b < w.heap.size) (fun _ _ hl => hl)
  have hm2 := hmw.bel hXY
  have HTD : Hid (∀ v, Below w2.heap.size w2 v → Calls Tryz.prog 54 #[.slice ba bl bc] v (fun e w' => Below v.heap.size v w' ∧ ∃ fo fc, e = .returned (.slice fo bl fc) ∧ Tree (fun b => v.heap.size ≤ b) w' (.slice fo bl fc) m.body)) := Lib.hid (fun v hv => by
    have := told_any m.body hmild (.slice ba bl bc) v ((hm2.bel hv).body.mono (fun _ _ _ => trivial))
    refine this.mono ?_
    rintro e w' ⟨h1, v', rfl, hown⟩
    have hlo : ∀ g, v'.ownBlock = some g → v.heap.size ≤ g := fun g hg => by obtain ⟨vl, -, ho, -⟩ := hown; exact (ho.lt g hg).1
    have ht := hown.tree.mono (S' := fun b => v.heap.size ≤ b) (fun b hb _ => by
      rcases hb with hb | hb
      · exact hb
      · exact hlo b hb)
    obtain ⟨fo, fc, rfl, -, -⟩ := ht.form
    rw [hbl] at ht ⊢
    exact ⟨h1, fo, fc, rfl, ht⟩)
  have hS : Hid (∀ v, Below w2.heap.size w2 v → (v.cell? ⟨w.heap.size, 0, none⟩ = some (.string ⟨m.name.toArray⟩) ∧ v.cell? ⟨w.heap.size, 1, none⟩ = some (.slice pa pl pc) ∧ v.cell? ⟨w.heap.size, 2, none⟩ = some (.slice ta tl tc) ∧ v.cell? ⟨w.heap.size, 3, none⟩ = some (.int .i64 m.prim) ∧ v.cell? ⟨w.heap.size, 4, none⟩ = some (.slice ba bl bc) ∧ v.cell? ⟨w.heap.size, 5, none⟩ = some (.int .i64 m.at_))) := Lib.hid (fun v hv => by
    have h1 := hkx2.below hv hkx2.lt
    exact ⟨h1.c 0 _ rfl, h1.c 1 _ rfl, h1.c 2 _ rfl, h1.c 3 _ rfl, h1.c 4 _ rfl, h1.c 5 _ rfl⟩)
  have hkl := hkr.lt
  have HW1 := Lib.hid hw1
  have HW2 := Lib.hid hw2
  have HKR := Lib.hid hkr
  have HXY := Lib.hid hXY
  have HM2 := Lib.hid hm2
  unfold mtV
  clear hm hX hkx hw1 hY hkr hw2 hsz hXY hkx2 hmw hm2 hpl htl hbl
  go_enter Tryz.func19, Tryz.ntmps19
  go_upto_region 1 with fail
  rw [HW1.out, HW2.out]
  have HB0 : Hid (Below w2.heap.size w2 w2.drew) := Lib.hid (Below.refl _ w2).drew
  refine wp_region_noPanic ?_
  refine Hd.start (fun v => v.cell? ⟨w.heap.size, 0, none⟩ = some (.string ⟨m.name.toArray⟩) ∧ v.cell? ⟨w.heap.size, 1, none⟩ = some (.slice pa pl pc) ∧ v.cell? ⟨w.heap.size, 2, none⟩ = some (.slice ta tl tc) ∧ v.cell? ⟨w.heap.size, 3, none⟩ = some (.int .i64 m.prim) ∧ v.cell? ⟨w.heap.size, 4, none⟩ = some (.slice ba bl bc) ∧ v.cell? ⟨w.heap.size, 5, none⟩ = some (.int .i64 m.at_)) (by kernel_rfl) (hS.out _ HB0.out) (fun hH0 => ?_)
  refine Hd.take 0 1 (oi := ?_) (v := ?_) ?_ (by kernel_rfl) (fun _ _ _ h => h) hH0 ?_ ?_ ?_
  rotate_left 2
  · simp only [List.getElem?_toArray, List.getElem?_cons_zero]
    exact rfl
  · rfl
  · intro w hSw
    (try dsimp only at hSw)
    go_simp
    try with_reducible rfl
  try simp only [Act.put, List.setIfInBounds_toArray, List.set_cons_zero, List.set_cons_succ]
  refine Hd.take 1 13 (oi := ?_) (v := ?_) ?_ (by kernel_rfl) (fun _ _ _ h => h) hH0 ?_ ?_ ?_
  rotate_left 2
  · simp only [List.getElem?_toArray, List.getElem?_cons_succ, List.getElem?_cons_zero]
    exact rfl
  · rfl
  · intro w hSw
    (try dsimp only at hSw)
    go_simp
    try with_reducible rfl
  try simp only [Act.put, List.setIfInBounds_toArray, List.set_cons_zero, List.set_cons_succ]
  refine Hd.take 2 3 (oi := ?_) (v := ?_) ?_ (by kernel_rfl) (fun _ _ _ h => h) hH0 ?_ ?_ ?_
  rotate_left 2
  · simp only [List.getElem?_toArray, List.getElem?_cons_succ, List.getElem?_cons_zero]
    exact rfl
  · rfl
  · intro w hSw
    (try dsimp only at hSw)
    go_simp
    try with_reducible rfl
  try simp only [Act.put, List.setIfInBounds_toArray, List.set_cons_zero, List.set_cons_succ]
  refine Hd.take 3 13 (oi := ?_) (v := ?_) ?_ (by kernel_rfl) (fun _ _ _ h => h) hH0 ?_ ?_ ?_
  rotate_left 2
  · simp only [List.getElem?_toArray, List.getElem?_cons_succ, List.getElem?_cons_zero]
    exact rfl
  · rfl
  · intro w hSw
    (try dsimp only at hSw)
    go_simp
    try with_reducible rfl
  try simp only [Act.put, List.setIfInBounds_toArray, List.set_cons_zero, List.set_cons_succ]
  refine Hd.take 4 5 (oi := ?_) (v := ?_) ?_ (by kernel_rfl) (fun _ _ _ h => h) hH0 ?_ ?_ ?_
  rotate_left 2
  · simp only [List.getElem?_toArray, List.getElem?_cons_succ, List.getElem?_cons_zero]
    exact rfl
  · rfl
  · intro w hSw
    (try dsimp only at hSw)
    go_simp
    try with_reducible rfl
  try simp only [Act.put, List.setIfInBounds_toArray, List.set_cons_zero, List.set_cons_succ]
  refine Hd.take 5 13 (oi := ?_) (v := ?_) ?_ (by kernel_rfl) (fun _ _ _ h => h) hH0 ?_ ?_ ?_
  rotate_left 2
  · simp only [List.getElem?_toArray, List.getElem?_cons_succ, List.getElem?_cons_zero]
    exact rfl
  · rfl
  · intro w hSw
    (try dsimp only at hSw)
    go_simp
    try with_reducible rfl
  try simp only [Act.put, List.setIfInBounds_toArray, List.set_cons_zero, List.set_cons_succ]
  refine Hd.take 6 7 (oi := ?_) (v := ?_) ?_ (by kernel_rfl) (fun _ _ _ h => h) hH0 ?_ ?_ ?_
  rotate_left 2
  · simp only [List.getElem?_toArray, List.getElem?_cons_succ, List.getElem?_cons_zero]
    exact rfl
  · rfl
  · intro w hSw
    (try dsimp only at hSw)
    go_simp
    try with_reducible rfl
  try simp only [Act.put, List.setIfInBounds_toArray, List.set_cons_zero, List.set_cons_succ]
  refine Hd.take 7 13 (oi := ?_) (v := ?_) ?_ (by kernel_rfl) (fun _ _ _ h => h) hH0 ?_ ?_ ?_
  rotate_left 2
  · simp only [List.getElem?_toArray, List.getElem?_cons_succ, List.getElem?_cons_zero]
    exact rfl
  · rfl
  · intro w hSw
    (try dsimp only at hSw)
    go_simp
    try with_reducible rfl
  try simp only [Act.put, List.setIfInBounds_toArray, List.set_cons_zero, List.set_cons_succ]
  refine Hd.take 8 9 (oi := ?_) (v := ?_) ?_ (by kernel_rfl) (fun _ _ _ h => h) hH0 ?_ ?_ ?_
  rotate_left 2
  · simp only [List.getElem?_toArray, List.getElem?_cons_succ, List.getElem?_cons_zero]
    exact rfl
  · rfl
  · intro w hSw
    (try dsimp only at hSw)
    go_simp
    try with_reducible rfl
  try simp only [Act.put, List.setIfInBounds_toArray, List.set_cons_zero, List.set_cons_succ]
  refine Hd.take 9 10 (oi := ?_) (v := ?_) ?_ (by kernel_rfl) (fun _ _ _ h => h) hH0 ?_ ?_ ?_
  rotate_left 2
  · simp only [List.getElem?_toArray, List.getElem?_cons_succ, List.getElem?_cons_zero]
    exact rfl
  · rfl
  · intro w hSw
    (try dsimp only at hSw)
    go_simp
    try with_reducible rfl
  try simp only [Act.put, List.setIfInBounds_toArray, List.set_cons_zero, List.set_cons_succ]
  refine Hd.take 11 12 (oi := ?_) (v := ?_) ?_ (by kernel_rfl) (fun _ _ _ h => h) hH0 ?_ ?_ ?_
  rotate_left 2
  · simp only [List.getElem?_toArray, List.getElem?_cons_succ, List.getElem?_cons_zero]
    exact rfl
  · rfl
  · intro w hSw
    (try dsimp only at hSw)
    go_simp
    try with_reducible rfl
  try simp only [Act.put, List.setIfInBounds_toArray, List.set_cons_zero, List.set_cons_succ]
  refine Hd.take 12 13 (oi := ?_) (v := ?_) ?_ (by kernel_rfl) (fun _ _ _ h => h) hH0 ?_ ?_ ?_
  rotate_left 2
  · simp only [List.getElem?_toArray, List.getElem?_cons_succ, List.getElem?_cons_zero]
    exact rfl
  · rfl
  · intro w hSw
    (try dsimp only at hSw)
    go_simp
    try with_reducible rfl
  try simp only [Act.put, List.setIfInBounds_toArray, List.set_cons_zero, List.set_cons_succ]
  refine Hd.one 10 10 (o := ?_) ?_ (by kernel_rfl) (fun K hK => ?_)
  rotate_left 1
  · simp only [List.getElem?_toArray, List.getElem?_cons_succ, List.getElem?_cons_zero]
    exact rfl
  go_simp
  refine (HTD.out _ HB0.out).mono ?_; rintro e w4 ⟨hbd, fo, fc, rfl, htr⟩
  have HB1 := Lib.hid (HB0.out.trans (hbd.mono HB0.out.size))
  have HTR := Lib.hid htr
  have HK4 := Lib.hid (HKR.out.below HB1.out HKR.out.lt)
  clear hbd htr
  go_wp2_with fail
  refine hK.out _ _ (hS.out _ HB1.out) (fun hH1 => ?_)
  clear hK K
  try simp only [Act.put, List.setIfInBounds_toArray, List.set_cons_zero, List.set_cons_succ]
  refine Hd.take 13 14 (oi := ?_) (v := ?_) ?_ (by kernel_rfl) (fun _ _ _ h => h) hH1 ?_ ?_ ?_
  rotate_left 2
  · simp only [List.getElem?_toArray, List.getElem?_cons_succ, List.getElem?_cons_zero]
    exact rfl
  · rfl
  · intro w hSw
    (try dsimp only at hSw)
    go_simp
    try with_reducible rfl
  try simp only [Act.put, List.setIfInBounds_toArray, List.set_cons_zero, List.set_cons_succ]
  have e0 := HK4.out.c 0 _ rfl
  have e1 := HK4.out.c 1 _ rfl
  have e2 := HK4.out.c 2 _ rfl
  have e3 := HK4.out.c 3 _ rfl
  have e4 := HK4.out.c 4 _ rfl
  have e5 := HK4.out.c 5 _ rfl
  have ef := HK4.out.fz
  have el := HK4.out.lt
  refine Hd.last 14 (o := ?_) ?_ (by kernel_rfl) (by kernel_rfl) (by kernel_rfl) (fun K hK => ?_)
  rotate_left 1
  · simp only [List.getElem?_toArray, List.getElem?_cons_succ, List.getElem?_cons_zero]
    exact rfl
  go_simp
  generalize hwv : World.setCell _ _ _ = w5
  have htwo := two_at hwv
  have HK5 := Lib.hid (six_at hwv HK4.out)
  have HM5 := Lib.hid ((HM2.out.bel HB1.out).two htwo (fun b hb => by omega))
  have HT5 : Hid (Tree (fun b => w2.heap.size ≤ b) w5 (.slice fo bl fc) m.body) := Lib.hid ((HTR.out.kp (w' := w5) ⟨Nat.le_of_eq htwo.size.symm, fun b hb _ => htwo.block b (fun e => by have h1 := HB0.out.size; have h2 : w2.drew.heap.size ≤ b := hb; omega) (fun e => by have h1 := HB0.out.size; have h2 : w2.drew.heap.size ≤ b := hb; omega)⟩).mono (fun b hb _ => Nat.le_trans HB0.out.size hb))
  have HB5 : Hid (Below w.heap.size w w5) := Lib.hid (htwo.bel (HXY.out.trans (HB1.out.mono HXY.out.size)) (by omega))
  clear e0 e1 e2 e3 e4 e5 ef hwv htwo
  refine hK.out _ _ ?_
  clear hK K
  try simp only [Act.put, List.setIfInBounds_toArray, List.set_cons_zero, List.set_cons_succ]
  simp only [NoPanic]
  go_wp2_with fail
  have e0 := HK5.out.c 0 _ rfl
  have e1 := HK5.out.c 1 _ rfl
  have e2 := HK5.out.c 2 _ rfl
  have e3 := HK5.out.c 3 _ rfl
  have e4 := HK5.out.c 4 _ rfl
  have e5 := HK5.out.c 5 _ rfl
  refine bodyPost_ret (v := .agg #[.string ⟨m.name.toArray⟩, .slice pa pl pc, .slice ta tl tc, .int .i64 m.prim, .slice fo bl fc, .int .i64 m.at_]) (by simp [results, Tryz.results19, go_sem, e0, e1, e2, e3, e4, e5]) rfl ?_
  exact ⟨HB5.out, _, rfl, ⟨HM5.out.params.mono (fun _ _ _ => trivial), HM5.out.temps.mono (fun _ _ _ => trivial), HT5.out.mono (fun _ _ _ => trivial)⟩⟩
set_option maxRecDepth 100000 in
set_option maxHeartbeats 3200000 in
theorem prints_walk (m : Mt) (pv tv bv : Value) (hin : ∀ x ∈ allL m.body, InI x) (w : World) (hm : MtAt (fun _ => True) w m pv tv bv) (hpow : Pow10 w) (herr : ErrVar w) (hmax : MaxV w) :
    Calls Tryz.prog 4 #[mtV m pv tv bv] w (Back (.bool true) w) := by
  have hmB := hm.mono (S' := fun b => b < w.heap.size) (fun b _ hl => hl)
  obtain ⟨pa0, pc0, ta0, tc0, ba0, bc0, rfl, rfl, rfl⟩ := hm.form
  obtain ⟨M, hM⟩ : ∃ M, cutM m = M := ⟨_, rfl⟩
  have hmild : Mild M.body := by rw [← hM]; exact few_mild m.body hin 60
  have hpl15 : M.params.length ≤ 15 := by rw [← hM]; show (m.params.take 15).length ≤ 15; rw [List.length_take]; omega
  have htl15 : M.temps.length ≤ 15 := by rw [← hM]; show (m.temps.take 15).length ≤ 15; rw [List.length_take]; omega
  have HX := Lib.hid (alloc_bel w (.cells #[.string ⟨m.name.toArray⟩, .slice pa0 m.params.length pc0, .slice ta0 m.temps.length tc0, .int .i64 m.prim, .slice ba0 m.body.length bc0, .int .i64 m.at_] 25))
  have HK0 := Lib.hid (Blk.made (T := 25) (cs := #[.string ⟨m.name.toArray⟩, .slice pa0 m.params.length pc0, .slice ta0 m.temps.length tc0, .int .i64 m.prim, .slice ba0 m.body.length bc0, .int .i64 m.at_]) w)
  have HAW := Lib.hid (awake_any _ (hpow.below HX.out) (hmax.below HX.out) (herr.below HX.out))
  have HMB := Lib.hid hmB
  have HMI := Lib.hid hmild
  have HM := Lib.hid hM
  have HPW := Lib.hid (And.intro hpow (And.intro herr hmax))
  clear hm hmB hpow herr hmax hmild hM hin
  unfold mtV
  go_enter Tryz.func4, Tryz.ntmps4
  go_wp2_with fail
  refine HAW.out.mono ?_; rintro e w1 ⟨rfl, hb1⟩
  have hk1 := HK0.out.below hb1 HK0.out.lt
  have hb01 := HX.out.trans (hb1.mono HX.out.size)
  have HCUT := Lib.hid (cutm_any w.heap.size m _ _ _ w1 hb01.size (HMB.out.kp (Kp.lt hb01)))
  rw [HM.out] at HCUT
  unfold mtV at HCUT
  have c0 := hk1.c 0 _ rfl
  have c1 := hk1.c 1 _ rfl
  have c2 := hk1.c 2 _ rfl
  have c3 := hk1.c 3 _ rfl
  have c4 := hk1.c 4 _ rfl
  have c5 := hk1.c 5 _ rfl
  have HK1 := Lib.hid hk1
  have HB01 := Lib.hid hb01
  clear hb1 hk1 hb01
  go_wp2_with fail
  refine HCUT.out.mono ?_; rintro e w2 ⟨hb2, pv', tv', bv', rfl, hm2⟩
  obtain ⟨pa, pc, ta, tc, ba, bc, rfl, rfl, rfl⟩ := hm2.form
  have hk2 := HK1.out.below hb2 HK1.out.lt
  have hsz := HK1.out.lt
  have hf := hk2.fz
  have hlt := hk2.lt
  have e0 := hk2.c 0 _ rfl
  have e1 := hk2.c 1 _ rfl
  have e2 := hk2.c 2 _ rfl
  have e3 := hk2.c 3 _ rfl
  have e4 := hk2.c 4 _ rfl
  have e5 := hk2.c 5 _ rfl
  have HB02 := Lib.hid (HB01.out.trans (hb2.mono HB01.out.size))
  have HK2 := Lib.hid hk2
  have HM2 := Lib.hid hm2
  clear c0 c1 c2 c3 c4 c5 hk2 hm2 hb2 HCUT
  go_upto_region 4 with fail
  generalize hW3 : World.setCell _ _ _ = W3
  obtain ⟨pl, hpl⟩ : ∃ n, M.params.length = n := ⟨_, rfl⟩
  obtain ⟨tl, htl⟩ : ∃ n, M.temps.length = n := ⟨_, rfl⟩
  obtain ⟨bl, hbl⟩ : ∃ n, M.body.length = n := ⟨_, rfl⟩
  rw [hpl, htl, hbl] at HM2 hW3
  have htwo : Two w.heap.size w.heap.size w2 W3 := by rw [← hW3]; exact six_two _ _ _ _ _ _ _
  have hk3 : Blk 25 w.heap.size #[.string ⟨M.name.toArray⟩, .slice pa pl pc, .slice ta tl tc, .int .i64 M.prim, .slice ba bl bc, .int .i64 M.at_] W3 := by rw [← hW3]; exact six HK2.out _ _ _ _ _ _
  have hm3 := (HM2.out.two htwo (fun b hb => by omega)).mono (S' := fun _ => True) (fun _ _ _ => trivial)
  have HB03 := Lib.hid (htwo.bel HB02.out (Nat.le_refl _))
  have HOWN := Lib.hid (own_any M HMI.out hpl15 htl15 _ _ _ W3 hm3)
  unfold mtV at HOWN
  have c0 := hk3.c 0 _ rfl
  have c1 := hk3.c 1 _ rfl
  have c2 := hk3.c 2 _ rfl
  have c3 := hk3.c 3 _ rfl
  have c4 := hk3.c 4 _ rfl
  have c5 := hk3.c 5 _ rfl
  have HK3 := Lib.hid hk3
  have HM3 := Lib.hid hm3
  have HPL := Lib.hid hpl
  have HTL := Lib.hid htl
  have HBL := Lib.hid hbl
  clear hW3 htwo hk3 hm3 HM2 HK2 HB02 hf hlt hpl htl hbl e0 e1 e2 e3 e4 e5
  go_wp2_with fail
  refine HOWN.out.mono ?_; rintro e w4 ⟨hb4, pv4, tv4, bv4, rfl, hp4, ht4, hbd4⟩
  have hmx0 : MtAt (fun _ => True) w4 M pv4 tv4 bv4 := ⟨hp4.mono (fun _ _ _ => trivial), ht4.mono (fun _ _ _ => trivial), hbd4.tree.mono (fun _ _ _ => trivial)⟩
  obtain ⟨xa, xc, ya, yc, za, zc, rfl, rfl, rfl⟩ := hmx0.form
  rw [HPL.out, HTL.out, HBL.out] at hmx0
  have hk4 := HK3.out.below hb4 HK3.out.lt
  have HB04 := Lib.hid (HB03.out.trans (hb4.mono HB03.out.size))
  have hm4 := HM3.out.bel hb4
  obtain ⟨KX, hKX⟩ : ∃ k, w4.heap.size = k := ⟨_, rfl⟩
  have HX5 := Lib.hid (alloc_bel w4 (.cells #[.string ⟨M.name.toArray⟩, .slice xa pl xc, .slice ya tl yc, .int .i64 M.prim, .slice za bl zc, .int .i64 M.at_] 30))
  have hkx := Blk.made (T := 30) (cs := #[.string ⟨M.name.toArray⟩, .slice xa pl xc, .slice ya tl yc, .int .i64 M.prim, .slice za bl zc, .int .i64 M.at_]) w4
  rw [hKX] at hkx
  obtain ⟨w5, hw5⟩ : ∃ W, w4.alloc (.cells #[.string ⟨M.name.toArray⟩, .slice xa pl xc, .slice ya tl yc, .int .i64 M.prim, .slice za bl zc, .int .i64 M.at_] 30) = W := ⟨_, rfl⟩
  rw [hw5] at HX5 hkx
  rw [HPL.out, HTL.out, HBL.out]
  have hk5 := hk4.below HX5.out hk4.lt
  have hm5 := hm4.bel HX5.out
  have hx5 := hmx0.bel HX5.out
  have HB05 := Lib.hid (HB04.out.trans (HX5.out.mono HB04.out.size))
  have hc9 : cntL M.body ≤ 100000 := by have := HMI.out.few; omega
  have hin9 : ∀ x ∈ allL M.body, InI x := fun x hx => (HMI.out.fair x hx).2.2
  obtain ⟨ck, hck⟩ : ∃ c, checkM M = c := ⟨_, rfl⟩
  obtain ⟨TX, hTX⟩ : ∃ t, (if ck = 0 then printT M else []) = t := ⟨_, rfl⟩
  have HPR := Print_any M _ _ _ HMI.out (by omega) w5 hx5 (HPW.out.1.below HB05.out) (HPW.out.2.2.below HB05.out) (HPW.out.2.1.below HB05.out)
  rw [hck, hTX] at HPR
  unfold mtV at HPR
  replace HPR := Lib.hid HPR
  have HRC : Hid (∀ v, Below w5.heap.size w5 v → Calls Tryz.prog 11 #[.agg #[.string ⟨M.name.toArray⟩, .slice pa pl pc, .slice ta tl tc, .int .i64 M.prim, .slice ba bl bc, .int .i64 M.at_]] v (Back (.int .i64 ck) v)) := Lib.hid (fun v hv => by
    rw [← hck]; exact rcheck_any M _ _ _ hc9 v (hm5.bel hv))
  have HRP : Hid (ck = 0 → ∀ v, Below w5.heap.size w5 v → Calls Tryz.prog 17 #[.agg #[.string ⟨M.name.toArray⟩, .slice pa pl pc, .slice ta tl tc, .int .i64 M.prim, .slice ba bl bc, .int .i64 M.at_]] v (Back (.string ⟨TX.toArray⟩) v)) := Lib.hid (fun h0 v hv => by
    have := rprint_any M HMI.out (by rw [hck]; exact h0) htl15 _ _ _ v (hm5.bel hv)
    rw [← hTX, if_pos h0]
    exact this)
  have HTO : Hid (∀ v, Below w5.heap.size w5 v → Calls Tryz.prog 19 #[.agg #[.string ⟨M.name.toArray⟩, .slice xa pl xc, .slice ya tl yc, .int .i64 M.prim, .slice za bl zc, .int .i64 M.at_]] v (fun e v' => Below v.heap.size v v' ∧ ∃ bv', e = .returned (mtV M (.slice xa pl xc) (.slice ya tl yc) bv') ∧ MtAt (fun _ => True) v' M (.slice xa pl xc) (.slice ya tl yc) bv')) := Lib.hid (fun v hv => Told_law M HMI.out _ _ _ v (hx5.bel hv))
  have hS : Hid (∀ v, Below w5.heap.size w5 v → ((v.cell? ⟨KX, 0, none⟩ = some (.string ⟨M.name.toArray⟩) ∧ v.cell? ⟨KX, 1, none⟩ = some (.slice xa pl xc) ∧ v.cell? ⟨KX, 2, none⟩ = some (.slice ya tl yc) ∧ v.cell? ⟨KX, 3, none⟩ = some (.int .i64 M.prim) ∧ v.cell? ⟨KX, 4, none⟩ = some (.slice za bl zc) ∧ v.cell? ⟨KX, 5, none⟩ = some (.int .i64 M.at_)) ∧ (v.cell? ⟨w.heap.size, 0, none⟩ = some (.string ⟨M.name.toArray⟩) ∧ v.cell? ⟨w.heap.size, 1, none⟩ = some (.slice pa pl pc) ∧ v.cell? ⟨w.heap.size, 2, none⟩ = some (.slice ta tl tc) ∧ v.cell? ⟨w.heap.size, 3, none⟩ = some (.int .i64 M.prim) ∧ v.cell? ⟨w.heap.size, 4, none⟩ = some (.slice ba bl bc) ∧ v.cell? ⟨w.heap.size, 5, none⟩ = some (.int .i64 M.at_)))) := Lib.hid (fun v hv => by
    have h1 := hkx.below hv hkx.lt
    have h2 := hk5.below hv hk5.lt
    exact ⟨⟨h1.c 0 _ rfl, h1.c 1 _ rfl, h1.c 2 _ rfl, h1.c 3 _ rfl, h1.c 4 _ rfl, h1.c 5 _ rfl⟩, h2.c 0 _ rfl, h2.c 1 _ rfl, h2.c 2 _ rfl, h2.c 3 _ rfl, h2.c 4 _ rfl, h2.c 5 _ rfl⟩)
  have HFIN : Hid (∀ v, Below w5.heap.size w5 v → Below w.heap.size w v) := Lib.hid (fun v hv => HB05.out.trans (hv.mono HB05.out.size))
  have HKX := Lib.hid hkx
  have HK5 := Lib.hid hk5
  have HM5 := Lib.hid hm5
  have HTX := Lib.hid hTX
  obtain ⟨x0, x1, x2, x3, x4, x5⟩ := (hS.out w5 (Below.refl _ _)).1
  clear hb4 hp4 ht4 hbd4 hmx0 hk4 hm4 hkx hk5 hm5 hx5 hck c0 c1 c2 c3 c4 c5 HM3 HK3 HB03 HB04 HOWN hin9 hc9 HK1 HB01 HX HK0 hTX
  go_upto_region 5 with fail
  go_wp2_with fail
  refine HPR.out.mono ?_; rintro e w6 ⟨hb6, rfl⟩
  obtain ⟨-, m0, m1, m2, m3, m4, m5⟩ := hS.out w6 hb6
  have HB6 := Lib.hid hb6
  clear hb6 x0 x1 x2 x3 x4 x5
  go_wp2_with fail
  refine (HRC.out _ HB6.out).mono ?_; rintro e w7 ⟨rfl, hb7⟩
  have HB7 := Lib.hid (HB6.out.trans (hb7.mono HB6.out.size))
  clear hb7 m0 m1 m2 m3 m4 m5
  by_cases h0 : ck = 0
  · have HRP0 := Lib.hid (HRP.out h0)
    subst h0
    go_upto_region 9 with fail
    have HBV0 : Hid (Below w5.heap.size w5 w7.drew) := Lib.hid HB7.out.drew
    refine wp_region_noPanic ?_
    refine Hd.start (fun v => (v.cell? ⟨KX, 0, none⟩ = some (.string ⟨M.name.toArray⟩) ∧ v.cell? ⟨KX, 1, none⟩ = some (.slice xa pl xc) ∧ v.cell? ⟨KX, 2, none⟩ = some (.slice ya tl yc) ∧ v.cell? ⟨KX, 3, none⟩ = some (.int .i64 M.prim) ∧ v.cell? ⟨KX, 4, none⟩ = some (.slice za bl zc) ∧ v.cell? ⟨KX, 5, none⟩ = some (.int .i64 M.at_)) ∧ (v.cell? ⟨w.heap.size, 0, none⟩ = some (.string ⟨M.name.toArray⟩) ∧ v.cell? ⟨w.heap.size, 1, none⟩ = some (.slice pa pl pc) ∧ v.cell? ⟨w.heap.size, 2, none⟩ = some (.slice ta tl tc) ∧ v.cell? ⟨w.heap.size, 3, none⟩ = some (.int .i64 M.prim) ∧ v.cell? ⟨w.heap.size, 4, none⟩ = some (.slice ba bl bc) ∧ v.cell? ⟨w.heap.size, 5, none⟩ = some (.int .i64 M.at_))) (by kernel_rfl) (hS.out _ HBV0.out) (fun hH0 => ?_)
    refine Hd.take 0 1 (oi := ?_) (v := ?_) ?_ (by kernel_rfl) (fun _ _ _ h => h) hH0 ?_ ?_ ?_
    rotate_left 2
    · simp only [List.getElem?_toArray, List.getElem?_cons_zero]
      exact rfl
    · rfl
    · intro w hSw
      (try dsimp only at hSw)
      go_simp
      try with_reducible rfl
    try simp only [Act.put, List.setIfInBounds_toArray, List.set_cons_zero, List.set_cons_succ]
    refine Hd.take 1 2 (oi := ?_) (v := ?_) ?_ (by kernel_rfl) (fun _ _ _ h => h) hH0 ?_ ?_ ?_
    rotate_left 2
    · simp only [List.getElem?_toArray, List.getElem?_cons_succ, List.getElem?_cons_zero]
      exact rfl
    · rfl
    · intro w hSw
      (try dsimp only at hSw)
      go_simp
      try with_reducible rfl
    try simp only [Act.put, List.setIfInBounds_toArray, List.set_cons_zero, List.set_cons_succ]
    refine Hd.take 2 7 (oi := ?_) (v := ?_) ?_ (by kernel_rfl) (fun _ _ _ h => h) hH0 ?_ ?_ ?_
    rotate_left 2
    · simp only [List.getElem?_toArray, List.getElem?_cons_succ, List.getElem?_cons_zero]
      exact rfl
    · rfl
    · intro w hSw
      (try dsimp only at hSw)
      go_simp
      try with_reducible rfl
    try simp only [Act.put, List.setIfInBounds_toArray, List.set_cons_zero, List.set_cons_succ]
    refine Hd.take 3 6 (oi := ?_) (v := ?_) ?_ (by kernel_rfl) (fun _ _ _ h => h) hH0 ?_ ?_ ?_
    rotate_left 2
    · simp only [List.getElem?_toArray, List.getElem?_cons_succ, List.getElem?_cons_zero]
      exact rfl
    · rfl
    · intro w hSw
      (try dsimp only at hSw)
      go_simp
      try with_reducible rfl
    try simp only [Act.put, List.setIfInBounds_toArray, List.set_cons_zero, List.set_cons_succ]
    refine Hd.take 4 5 (oi := ?_) (v := ?_) ?_ (by kernel_rfl) (fun _ _ _ h => h) hH0 ?_ ?_ ?_
    rotate_left 2
    · simp only [List.getElem?_toArray, List.getElem?_cons_succ, List.getElem?_cons_zero]
      exact rfl
    · rfl
    · intro w hSw
      (try dsimp only at hSw)
      go_simp
      try with_reducible rfl
    try simp only [Act.put, List.setIfInBounds_toArray, List.set_cons_zero, List.set_cons_succ]
    refine Hd.one 5 5 (o := ?_) ?_ (by kernel_rfl) (fun K hK => ?_)
    rotate_left 1
    · simp only [List.getElem?_toArray, List.getElem?_cons_succ, List.getElem?_cons_zero]
      exact rfl
    go_simp
    refine (HRP0.out _ HBV0.out).mono ?_; rintro e w8 ⟨rfl, hbd⟩
    have HBV1 := Lib.hid (HBV0.out.trans (hbd.mono HBV0.out.size))
    clear hbd
    go_wp2_with fail
    refine hK.out _ _ (hS.out _ HBV1.out) (fun hH1 => ?_)
    clear hK K
    try simp only [Act.put, List.setIfInBounds_toArray, List.set_cons_zero, List.set_cons_succ]
    refine Hd.take 6 7 (oi := ?_) (v := ?_) ?_ (by kernel_rfl) (fun _ _ _ h => h) hH1 ?_ ?_ ?_
    rotate_left 2
    · simp only [List.getElem?_toArray, List.getElem?_cons_succ, List.getElem?_cons_zero]
      exact rfl
    · rfl
    · intro w hSw
      (try dsimp only at hSw)
      go_simp
      try with_reducible rfl
    try simp only [Act.put, List.setIfInBounds_toArray, List.set_cons_zero, List.set_cons_succ]
    refine Hd.take 7 8 (oi := ?_) (v := ?_) ?_ (by kernel_rfl) (fun _ _ _ h => h) hH1 ?_ ?_ ?_
    rotate_left 2
    · simp only [List.getElem?_toArray, List.getElem?_cons_succ, List.getElem?_cons_zero]
      exact rfl
    · rfl
    · intro w hSw
      (try dsimp only at hSw)
      go_simp
      try with_reducible rfl
    try simp only [Act.put, List.setIfInBounds_toArray, List.set_cons_zero, List.set_cons_succ]
    refine Hd.take 8 13 (oi := ?_) (v := ?_) ?_ (by kernel_rfl) (fun _ _ _ h => h) hH1 ?_ ?_ ?_
    rotate_left 2
    · simp only [List.getElem?_toArray, List.getElem?_cons_succ, List.getElem?_cons_zero]
      exact rfl
    · rfl
    · intro w hSw
      (try dsimp only at hSw)
      go_simp
      try with_reducible rfl
    try simp only [Act.put, List.setIfInBounds_toArray, List.set_cons_zero, List.set_cons_succ]
    refine Hd.take 9 10 (oi := ?_) (v := ?_) ?_ (by kernel_rfl) (fun _ _ _ h => h) hH1 ?_ ?_ ?_
    rotate_left 2
    · simp only [List.getElem?_toArray, List.getElem?_cons_succ, List.getElem?_cons_zero]
      exact rfl
    · rfl
    · intro w hSw
      (try dsimp only at hSw)
      go_simp
      try with_reducible rfl
    try simp only [Act.put, List.setIfInBounds_toArray, List.set_cons_zero, List.set_cons_succ]
    refine Hd.take 11 12 (oi := ?_) (v := ?_) ?_ (by kernel_rfl) (fun _ _ _ h => h) hH1 ?_ ?_ ?_
    rotate_left 2
    · simp only [List.getElem?_toArray, List.getElem?_cons_succ, List.getElem?_cons_zero]
      exact rfl
    · rfl
    · intro w hSw
      (try dsimp only at hSw)
      go_simp
      try with_reducible rfl
    try simp only [Act.put, List.setIfInBounds_toArray, List.set_cons_zero, List.set_cons_succ]
    refine Hd.one 10 10 (o := ?_) ?_ (by kernel_rfl) (fun K hK => ?_)
    rotate_left 1
    · simp only [List.getElem?_toArray, List.getElem?_cons_succ, List.getElem?_cons_zero]
      exact rfl
    go_simp
    refine (HTO.out _ HBV1.out).mono ?_; rintro e w9 ⟨hbd, bv', rfl, hmo⟩
    have HBV2 := Lib.hid (HBV1.out.trans (hbd.mono HBV1.out.size))
    obtain ⟨fo, fc, rfl, -, -⟩ := hmo.body.form
    have HSM := RSame_any M M _ _ _ _ _ _ w9 hmo (HM5.out.bel HBV2.out)
    rw [sameM_refl] at HSM
    unfold mtV at HSM ⊢
    replace HSM := Lib.hid HSM
    clear hbd hmo
    go_wp2_with fail
    refine hK.out _ _ (hS.out _ HBV2.out) (fun hH2 => ?_)
    clear hK K
    try simp only [Act.put, List.setIfInBounds_toArray, List.set_cons_zero, List.set_cons_succ]
    refine Hd.one 12 12 (o := ?_) ?_ (by kernel_rfl) (fun K hK => ?_)
    rotate_left 1
    · simp only [List.getElem?_toArray, List.getElem?_cons_succ, List.getElem?_cons_zero]
      exact rfl
    go_simp
    refine HSM.out.mono ?_; rintro e w10 ⟨rfl, hbd⟩
    have HBV3 := Lib.hid (HBV2.out.trans (hbd.mono HBV2.out.size))
    clear hbd
    go_wp2_with fail
    refine hK.out _ _ (hS.out _ HBV3.out) (fun hH3 => ?_)
    clear hK K
    try simp only [Act.put, List.setIfInBounds_toArray, List.set_cons_zero, List.set_cons_succ]
    refine Hd.take 13 14 (oi := ?_) (v := ?_) ?_ (by kernel_rfl) (fun _ _ _ h => h) hH3 ?_ ?_ ?_
    rotate_left 2
    · simp only [List.getElem?_toArray, List.getElem?_cons_succ, List.getElem?_cons_zero]
      exact rfl
    · rfl
    · intro w hSw
      (try dsimp only at hSw)
      go_simp
      try with_reducible rfl
    try simp only [Act.put, List.setIfInBounds_toArray, List.set_cons_zero, List.set_cons_succ]
    refine Hd.last 14 (o := ?_) ?_ (by kernel_rfl) (by kernel_rfl) (by kernel_rfl) (fun K hK => ?_)
    rotate_left 1
    · simp only [List.getElem?_toArray, List.getElem?_cons_succ, List.getElem?_cons_zero]
      exact rfl
    go_simp
    refine hK.out _ _ ?_
    clear hK K
    try simp only [Act.put, List.setIfInBounds_toArray, List.set_cons_zero, List.set_cons_succ]
    simp only [NoPanic]
    go_wp2_with fail
    go_ret
    exact ⟨by first | (simp; done) | rfl, HFIN.out _ HBV3.out⟩
  · have hb : (ck == 0) = false := beq_eq_false_iff_ne.2 h0
    have hbn : (ck != 0) = true := by simp [bne, hb]
    have ht : TX = [] := by rw [← HTX.out, if_neg h0]
    have H0 := Lib.hid h0
    subst ht
    clear h0
    go_wp2_with fail
    go_ret
    exact ⟨by first | (simp; done) | rfl, HFIN.out _ HB7.out⟩
end Tr
end Go.Proofs.YtfbhokdcnjekiaaGreatDoor
