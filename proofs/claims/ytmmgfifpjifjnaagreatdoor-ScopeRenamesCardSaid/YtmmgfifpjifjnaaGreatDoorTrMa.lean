/- Package tree, the walk: shape (printed by gen_trshape.py, hdx.py). · Package tree, the walk: kids. · Package tree, the walk: fits, depth, walk. · Package tree, the walk: depth, walk. · Package tree, the walk: walk, Walk, Depth, Count. -/
import Derived.Test.YtmmgfifpjifjnaaGreatDoorTrA
import Derived.Deep.DeepCutAuto
set_option linter.unusedVariables false
namespace Go.Proofs.YtmmgfifpjifjnaaGreatDoor
open Go.RowKit
namespace Tr
open Bs Sm
theorem alloc_bel (w : World) (o : Obj) : Below w.heap.size w (w.alloc o) := (Below.refl _ _).alloc (Nat.le_refl _) _
theorem arity_in (s : Bytes) : -1 ≤ Lx.arityL s ∧ Lx.arityL s ≤ 64 := by
 unfold Lx.arityL
 split
 · omega
 split
 · omega
 split
 · rename_i h _
   have h1 : Lib.countByte s 58 ≤ s.length := List.count_le_length
   omega
 split
 · omega
 split <;> omega
section
variable {x : Nd} {kv nv : Value} {w : World}
set_option maxRecDepth 100000 in
set_option maxHeartbeats 3200000 in
theorem shape1 (hK : x.kind = 1) (hk : Tree (fun _ => True) w kv x.kids) (hn : Rd (fun _ => True) strV w nv x.names) : Calls Tryz.prog 72 #[ndV x kv nv] w (Back (.bool (shapeB x)) w) := by
 obtain ⟨ka, kc, rfl, -, -⟩ := hk.form
 obtain ⟨na, nc, rfl, hnc, hnm⟩ := hn.form
 unfold maxLen at hnm
 have hb1 := alloc_bel w (.cells #[.int .i64 x.kind, .string ⟨x.name.toArray⟩, .int .i64 x.num, .slice ka x.kids.length kc, .slice na x.names.length nc, .int .i64 x.at_] 94)
 have hB1 := Blk.made (T := 94) (cs := #[.int .i64 x.kind, .string ⟨x.name.toArray⟩, .int .i64 x.num, .slice ka x.kids.length kc, .slice na x.names.length nc, .int .i64 x.at_]) w
 have HB := bare_any x (.slice ka x.kids.length kc) (.slice na x.names.length nc) false true false 0
 have HB := fun w' => HB w' rfl rfl
 have HNm := fun w' => name_any x.name w'
 have HAr := fun w' => Arity_at x.name w'
 have HCn := fun (w' : World) (h : Below w.heap.size w w') => cont_names _ x.names w' (hn.below h)
 unfold shapeB
 rw [hK, if_pos rfl]
 unfold strV at HNm HAr
 unfold ndV at HB ⊢
 obtain ⟨q, hq⟩ : ∃ q, bareB x false true 0 false = q := ⟨_, rfl⟩
 obtain ⟨nm, hnm2⟩ : ∃ q, isName x.name = q := ⟨_, rfl⟩
 obtain ⟨ar, har⟩ : ∃ q, Lx.arityL x.name = q := ⟨_, rfl⟩
 obtain ⟨an, han⟩ : ∃ q, x.names.all isName = q := ⟨_, rfl⟩
 obtain ⟨kl, hkl⟩ : ∃ q, x.kids.length = q := ⟨_, rfl⟩
 obtain ⟨nl, hnl⟩ : ∃ q, x.names.length = q := ⟨_, rfl⟩
 have hrange := arity_in x.name
 rw [hnm2] at HNm
 rw [han] at HCn
 rw [har] at hrange HAr
 rw [hq] at HB
 simp only [hkl, hnl, hK] at HB HCn hb1 hB1 hnc ⊢
 try rw [hq]
 try rw [hnm2]
 try rw [han]
 try rw [har]
 try rw [har] at HB
 have HB := Lib.hid HB
 have HNm := Lib.hid HNm
 have HAr := Lib.hid HAr
 have HCn := Lib.hid HCn
 have HB1 := Lib.hid hB1
 have Hb1 := Lib.hid hb1
 have hlt := hB1.lt
 clear hk hn hq hnm2 han har hkl hb1 hB1 hK
 go_enter Tryz.func72, Tryz.ntmps72
 go_wp2_with fail
 refine (HB.out _).mono ?_; rintro e w1 ⟨rfl, hb2⟩
 have hk2 := HB1.out.below hb2 hlt
 have c0 := hk2.c 0 _ rfl
 have c1 := hk2.c 1 _ rfl
 have c2 := hk2.c 2 _ rfl
 have c3 := hk2.c 3 _ rfl
 have c4 := hk2.c 4 _ rfl
 have hb3 := Hb1.out.trans (hb2.mono Hb1.out.size)
 have Hb3 := Lib.hid hb3
 clear hb3 hb2 hk2
 go_wp2_with fail
 go_ret
 exact ⟨by simp, Hb3.out⟩
set_option maxRecDepth 100000 in
set_option maxHeartbeats 3200000 in
theorem shape2 (hK : x.kind = 2) (hk : Tree (fun _ => True) w kv x.kids) (hn : Rd (fun _ => True) strV w nv x.names) : Calls Tryz.prog 72 #[ndV x kv nv] w (Back (.bool (shapeB x)) w) := by
 obtain ⟨ka, kc, rfl, -, -⟩ := hk.form
 obtain ⟨na, nc, rfl, hnc, hnm⟩ := hn.form
 unfold maxLen at hnm
 have hb1 := alloc_bel w (.cells #[.int .i64 x.kind, .string ⟨x.name.toArray⟩, .int .i64 x.num, .slice ka x.kids.length kc, .slice na x.names.length nc, .int .i64 x.at_] 94)
 have hB1 := Blk.made (T := 94) (cs := #[.int .i64 x.kind, .string ⟨x.name.toArray⟩, .int .i64 x.num, .slice ka x.kids.length kc, .slice na x.names.length nc, .int .i64 x.at_]) w
 have HB := bare_any x (.slice ka x.kids.length kc) (.slice na x.names.length nc) true false false 0
 have HB := fun w' => HB w' rfl rfl
 have HNm := fun w' => name_any x.name w'
 have HAr := fun w' => Arity_at x.name w'
 have HCn := fun (w' : World) (h : Below w.heap.size w w') => cont_names _ x.names w' (hn.below h)
 unfold shapeB
 rw [hK, if_neg (by decide), if_pos (.inl rfl)]
 unfold strV at HNm HAr
 unfold ndV at HB ⊢
 obtain ⟨q, hq⟩ : ∃ q, bareB x true false 0 false = q := ⟨_, rfl⟩
 obtain ⟨nm, hnm2⟩ : ∃ q, isName x.name = q := ⟨_, rfl⟩
 obtain ⟨ar, har⟩ : ∃ q, Lx.arityL x.name = q := ⟨_, rfl⟩
 obtain ⟨an, han⟩ : ∃ q, x.names.all isName = q := ⟨_, rfl⟩
 obtain ⟨kl, hkl⟩ : ∃ q, x.kids.length = q := ⟨_, rfl⟩
 obtain ⟨nl, hnl⟩ : ∃ q, x.names.length = q := ⟨_, rfl⟩
 have hrange := arity_in x.name
 rw [hnm2] at HNm
 rw [han] at HCn
 rw [har] at hrange HAr
 rw [hq] at HB
 simp only [hkl, hnl, hK] at HB HCn hb1 hB1 hnc ⊢
 try rw [hq]
 try rw [hnm2]
 try rw [han]
 try rw [har]
 try rw [har] at HB
 have HB := Lib.hid HB
 have HNm := Lib.hid HNm
 have HAr := Lib.hid HAr
 have HCn := Lib.hid HCn
 have HB1 := Lib.hid hB1
 have Hb1 := Lib.hid hb1
 have hlt := hB1.lt
 clear hk hn hq hnm2 han har hkl hb1 hB1 hK
 go_enter Tryz.func72, Tryz.ntmps72
 go_wp2_with fail
 refine (HB.out _).mono ?_; rintro e w1 ⟨rfl, hb2⟩
 have hk2 := HB1.out.below hb2 hlt
 have c0 := hk2.c 0 _ rfl
 have c1 := hk2.c 1 _ rfl
 have c2 := hk2.c 2 _ rfl
 have c3 := hk2.c 3 _ rfl
 have c4 := hk2.c 4 _ rfl
 have hb3 := Hb1.out.trans (hb2.mono Hb1.out.size)
 have Hb3 := Lib.hid hb3
 clear hb3 hb2 hk2
 go_wp2_with fail
 go_ret
 exact ⟨by simp, Hb3.out⟩
set_option maxRecDepth 100000 in
set_option maxHeartbeats 3200000 in
theorem shape3 (hK : x.kind = 3) (hk : Tree (fun _ => True) w kv x.kids) (hn : Rd (fun _ => True) strV w nv x.names) : Calls Tryz.prog 72 #[ndV x kv nv] w (Back (.bool (shapeB x)) w) := by
 obtain ⟨ka, kc, rfl, -, -⟩ := hk.form
 obtain ⟨na, nc, rfl, hnc, hnm⟩ := hn.form
 unfold maxLen at hnm
 have hb1 := alloc_bel w (.cells #[.int .i64 x.kind, .string ⟨x.name.toArray⟩, .int .i64 x.num, .slice ka x.kids.length kc, .slice na x.names.length nc, .int .i64 x.at_] 94)
 have hB1 := Blk.made (T := 94) (cs := #[.int .i64 x.kind, .string ⟨x.name.toArray⟩, .int .i64 x.num, .slice ka x.kids.length kc, .slice na x.names.length nc, .int .i64 x.at_]) w
 have HB := bare_any x (.slice ka x.kids.length kc) (.slice na x.names.length nc) true false false 0
 have HB := fun w' => HB w' rfl rfl
 have HNm := fun w' => name_any x.name w'
 have HAr := fun w' => Arity_at x.name w'
 have HCn := fun (w' : World) (h : Below w.heap.size w w') => cont_names _ x.names w' (hn.below h)
 unfold shapeB
 rw [hK, if_neg (by decide), if_pos (.inr rfl)]
 unfold strV at HNm HAr
 unfold ndV at HB ⊢
 obtain ⟨q, hq⟩ : ∃ q, bareB x true false 0 false = q := ⟨_, rfl⟩
 obtain ⟨nm, hnm2⟩ : ∃ q, isName x.name = q := ⟨_, rfl⟩
 obtain ⟨ar, har⟩ : ∃ q, Lx.arityL x.name = q := ⟨_, rfl⟩
 obtain ⟨an, han⟩ : ∃ q, x.names.all isName = q := ⟨_, rfl⟩
 obtain ⟨kl, hkl⟩ : ∃ q, x.kids.length = q := ⟨_, rfl⟩
 obtain ⟨nl, hnl⟩ : ∃ q, x.names.length = q := ⟨_, rfl⟩
 have hrange := arity_in x.name
 rw [hnm2] at HNm
 rw [han] at HCn
 rw [har] at hrange HAr
 rw [hq] at HB
 simp only [hkl, hnl, hK] at HB HCn hb1 hB1 hnc ⊢
 try rw [hq]
 try rw [hnm2]
 try rw [han]
 try rw [har]
 try rw [har] at HB
 have HB := Lib.hid HB
 have HNm := Lib.hid HNm
 have HAr := Lib.hid HAr
 have HCn := Lib.hid HCn
 have HB1 := Lib.hid hB1
 have Hb1 := Lib.hid hb1
 have hlt := hB1.lt
 clear hk hn hq hnm2 han har hkl hb1 hB1 hK
 go_enter Tryz.func72, Tryz.ntmps72
 go_wp2_with fail
 refine (HB.out _).mono ?_; rintro e w1 ⟨rfl, hb2⟩
 have hk2 := HB1.out.below hb2 hlt
 have c0 := hk2.c 0 _ rfl
 have c1 := hk2.c 1 _ rfl
 have c2 := hk2.c 2 _ rfl
 have c3 := hk2.c 3 _ rfl
 have c4 := hk2.c 4 _ rfl
 have hb3 := Hb1.out.trans (hb2.mono Hb1.out.size)
 have Hb3 := Lib.hid hb3
 clear hb3 hb2 hk2
 go_wp2_with fail
 go_ret
 exact ⟨by simp, Hb3.out⟩
set_option maxRecDepth 100000 in
set_option maxHeartbeats 3200000 in
theorem shape4 (hK : x.kind = 4) (hk : Tree (fun _ => True) w kv x.kids) (hn : Rd (fun _ => True) strV w nv x.names) : Calls Tryz.prog 72 #[ndV x kv nv] w (Back (.bool (shapeB x)) w) := by
 obtain ⟨ka, kc, rfl, -, -⟩ := hk.form
 obtain ⟨na, nc, rfl, hnc, hnm⟩ := hn.form
 unfold maxLen at hnm
 have hb1 := alloc_bel w (.cells #[.int .i64 x.kind, .string ⟨x.name.toArray⟩, .int .i64 x.num, .slice ka x.kids.length kc, .slice na x.names.length nc, .int .i64 x.at_] 94)
 have hB1 := Blk.made (T := 94) (cs := #[.int .i64 x.kind, .string ⟨x.name.toArray⟩, .int .i64 x.num, .slice ka x.kids.length kc, .slice na x.names.length nc, .int .i64 x.at_]) w
 have HB := bare_any x (.slice ka x.kids.length kc) (.slice na x.names.length nc) false false false (-1)
 have HB := fun w' => HB w' rfl rfl
 have HNm := fun w' => name_any x.name w'
 have HAr := fun w' => Arity_at x.name w'
 have HCn := fun (w' : World) (h : Below w.heap.size w w') => cont_names _ x.names w' (hn.below h)
 unfold shapeB
 rw [hK, if_neg (by decide), if_neg (by decide), if_pos rfl]
 unfold strV at HNm HAr
 unfold ndV at HB ⊢
 obtain ⟨q, hq⟩ : ∃ q, bareB x false false (-1) false = q := ⟨_, rfl⟩
 obtain ⟨nm, hnm2⟩ : ∃ q, isName x.name = q := ⟨_, rfl⟩
 obtain ⟨ar, har⟩ : ∃ q, Lx.arityL x.name = q := ⟨_, rfl⟩
 obtain ⟨an, han⟩ : ∃ q, x.names.all isName = q := ⟨_, rfl⟩
 obtain ⟨kl, hkl⟩ : ∃ q, x.kids.length = q := ⟨_, rfl⟩
 obtain ⟨nl, hnl⟩ : ∃ q, x.names.length = q := ⟨_, rfl⟩
 have hrange := arity_in x.name
 rw [hnm2] at HNm
 rw [han] at HCn
 rw [har] at hrange HAr
 rw [hq] at HB
 simp only [hkl, hnl, hK] at HB HCn hb1 hB1 hnc ⊢
 try rw [hq]
 try rw [hnm2]
 try rw [han]
 try rw [har]
 try rw [har] at HB
 have HB := Lib.hid HB
 have HNm := Lib.hid HNm
 have HAr := Lib.hid HAr
 have HCn := Lib.hid HCn
 have HB1 := Lib.hid hB1
 have Hb1 := Lib.hid hb1
 have hlt := hB1.lt
 clear hk hn hq hnm2 han har hkl hb1 hB1 hK
 go_enter Tryz.func72, Tryz.ntmps72
 go_wp2_with fail
 refine (HB.out _).mono ?_; rintro e w1 ⟨rfl, hb2⟩
 have hk2 := HB1.out.below hb2 hlt
 have c0 := hk2.c 0 _ rfl
 have c1 := hk2.c 1 _ rfl
 have c2 := hk2.c 2 _ rfl
 have c3 := hk2.c 3 _ rfl
 have c4 := hk2.c 4 _ rfl
 have hb3 := Hb1.out.trans (hb2.mono Hb1.out.size)
 have Hb3 := Lib.hid hb3
 clear hb3 hb2 hk2
 go_wp2_with fail
 go_ret
 exact ⟨by simp, Hb3.out⟩
set_option maxRecDepth 100000 in
set_option maxHeartbeats 3200000 in
theorem shape5 (hK : x.kind = 5) (hk : Tree (fun _ => True) w kv x.kids) (hn : Rd (fun _ => True) strV w nv x.names) : Calls Tryz.prog 72 #[ndV x kv nv] w (Back (.bool (shapeB x)) w) := by
 obtain ⟨ka, kc, rfl, -, -⟩ := hk.form
 obtain ⟨na, nc, rfl, hnc, hnm⟩ := hn.form
 unfold maxLen at hnm
 have hb1 := alloc_bel w (.cells #[.int .i64 x.kind, .string ⟨x.name.toArray⟩, .int .i64 x.num, .slice ka x.kids.length kc, .slice na x.names.length nc, .int .i64 x.at_] 94)
 have hB1 := Blk.made (T := 94) (cs := #[.int .i64 x.kind, .string ⟨x.name.toArray⟩, .int .i64 x.num, .slice ka x.kids.length kc, .slice na x.names.length nc, .int .i64 x.at_]) w
 have HB := bare_any x (.slice ka x.kids.length kc) (.slice na x.names.length nc) true false false 0
 have HB := fun w' => HB w' rfl rfl
 have HNm := fun w' => name_any x.name w'
 have HAr := fun w' => Arity_at x.name w'
 have HCn := fun (w' : World) (h : Below w.heap.size w w') => cont_names _ x.names w' (hn.below h)
 unfold shapeB
 rw [hK, if_neg (by decide), if_neg (by decide), if_neg (by decide), if_pos rfl]
 unfold strV at HNm HAr
 unfold ndV at HB ⊢
 obtain ⟨q, hq⟩ : ∃ q, bareB x true false 0 false = q := ⟨_, rfl⟩
 obtain ⟨nm, hnm2⟩ : ∃ q, isName x.name = q := ⟨_, rfl⟩
 obtain ⟨ar, har⟩ : ∃ q, Lx.arityL x.name = q := ⟨_, rfl⟩
 obtain ⟨an, han⟩ : ∃ q, x.names.all isName = q := ⟨_, rfl⟩
 obtain ⟨kl, hkl⟩ : ∃ q, x.kids.length = q := ⟨_, rfl⟩
 obtain ⟨nl, hnl⟩ : ∃ q, x.names.length = q := ⟨_, rfl⟩
 have hrange := arity_in x.name
 rw [hnm2] at HNm
 rw [han] at HCn
 rw [har] at hrange HAr
 rw [hq] at HB
 simp only [hkl, hnl, hK] at HB HCn hb1 hB1 hnc ⊢
 try rw [hq]
 try rw [hnm2]
 try rw [han]
 try rw [har]
 try rw [har] at HB
 have HB := Lib.hid HB
 have HNm := Lib.hid HNm
 have HAr := Lib.hid HAr
 have HCn := Lib.hid HCn
 have HB1 := Lib.hid hB1
 have Hb1 := Lib.hid hb1
 have hlt := hB1.lt
 clear hk hn hq hnm2 han har hkl hb1 hB1 hK
 go_enter Tryz.func72, Tryz.ntmps72
 go_wp2_with fail
 refine (HB.out _).mono ?_; rintro e w1 ⟨rfl, hb2⟩
 have hk2 := HB1.out.below hb2 hlt
 have c0 := hk2.c 0 _ rfl
 have c1 := hk2.c 1 _ rfl
 have c2 := hk2.c 2 _ rfl
 have c3 := hk2.c 3 _ rfl
 have c4 := hk2.c 4 _ rfl
 have hb3 := Hb1.out.trans (hb2.mono Hb1.out.size)
 have Hb3 := Lib.hid hb3
 clear hb3 hb2 hk2
 cases q with
 | false =>
  go_wp2_with fail
  go_ret
  exact ⟨by simp, Hb3.out⟩
 | true =>
  go_wp2_with fail
  refine (HNm.out _).mono ?_; rintro e w2 ⟨rfl, hb4⟩
  have Hb5 := Lib.hid (Hb3.out.trans (hb4.mono Hb3.out.size))
  clear hb4
  go_wp2_with fail
  go_ret
  exact ⟨by simp, Hb5.out⟩
set_option maxRecDepth 100000 in
set_option maxHeartbeats 3200000 in
theorem shape6 (hK : x.kind = 6) (hk : Tree (fun _ => True) w kv x.kids) (hn : Rd (fun _ => True) strV w nv x.names) : Calls Tryz.prog 72 #[ndV x kv nv] w (Back (.bool (shapeB x)) w) := by
 obtain ⟨ka, kc, rfl, -, -⟩ := hk.form
 obtain ⟨na, nc, rfl, hnc, hnm⟩ := hn.form
 unfold maxLen at hnm
 have hb1 := alloc_bel w (.cells #[.int .i64 x.kind, .string ⟨x.name.toArray⟩, .int .i64 x.num, .slice ka x.kids.length kc, .slice na x.names.length nc, .int .i64 x.at_] 94)
 have hB1 := Blk.made (T := 94) (cs := #[.int .i64 x.kind, .string ⟨x.name.toArray⟩, .int .i64 x.num, .slice ka x.kids.length kc, .slice na x.names.length nc, .int .i64 x.at_]) w
 have HB := bare_any x (.slice ka x.kids.length kc) (.slice na x.names.length nc) true false false 1
 have HB := fun w' => HB w' rfl rfl
 have HNm := fun w' => name_any x.name w'
 have HAr := fun w' => Arity_at x.name w'
 have HCn := fun (w' : World) (h : Below w.heap.size w w') => cont_names _ x.names w' (hn.below h)
 unfold shapeB
 rw [hK, if_neg (by decide), if_neg (by decide), if_neg (by decide), if_neg (by decide), if_pos rfl]
 unfold strV at HNm HAr
 unfold ndV at HB ⊢
 obtain ⟨q, hq⟩ : ∃ q, bareB x true false 1 false = q := ⟨_, rfl⟩
 obtain ⟨nm, hnm2⟩ : ∃ q, isName x.name = q := ⟨_, rfl⟩
 obtain ⟨ar, har⟩ : ∃ q, Lx.arityL x.name = q := ⟨_, rfl⟩
 obtain ⟨an, han⟩ : ∃ q, x.names.all isName = q := ⟨_, rfl⟩
 obtain ⟨kl, hkl⟩ : ∃ q, x.kids.length = q := ⟨_, rfl⟩
 obtain ⟨nl, hnl⟩ : ∃ q, x.names.length = q := ⟨_, rfl⟩
 have hrange := arity_in x.name
 rw [hnm2] at HNm
 rw [han] at HCn
 rw [har] at hrange HAr
 rw [hq] at HB
 simp only [hkl, hnl, hK] at HB HCn hb1 hB1 hnc ⊢
 try rw [hq]
 try rw [hnm2]
 try rw [han]
 try rw [har]
 try rw [har] at HB
 have HB := Lib.hid HB
 have HNm := Lib.hid HNm
 have HAr := Lib.hid HAr
 have HCn := Lib.hid HCn
 have HB1 := Lib.hid hB1
 have Hb1 := Lib.hid hb1
 have hlt := hB1.lt
 clear hk hn hq hnm2 han har hkl hb1 hB1 hK
 go_enter Tryz.func72, Tryz.ntmps72
 go_wp2_with fail
 refine (HB.out _).mono ?_; rintro e w1 ⟨rfl, hb2⟩
 have hk2 := HB1.out.below hb2 hlt
 have c0 := hk2.c 0 _ rfl
 have c1 := hk2.c 1 _ rfl
 have c2 := hk2.c 2 _ rfl
 have c3 := hk2.c 3 _ rfl
 have c4 := hk2.c 4 _ rfl
 have hb3 := Hb1.out.trans (hb2.mono Hb1.out.size)
 have Hb3 := Lib.hid hb3
 clear hb3 hb2 hk2
 cases q with
 | false =>
  go_wp2_with fail
  go_ret
  exact ⟨by simp, Hb3.out⟩
 | true =>
  go_wp2_with fail
  refine (HNm.out _).mono ?_; rintro e w2 ⟨rfl, hb4⟩
  have Hb5 := Lib.hid (Hb3.out.trans (hb4.mono Hb3.out.size))
  clear hb4
  go_wp2_with fail
  go_ret
  exact ⟨by simp, Hb5.out⟩
set_option maxRecDepth 100000 in
set_option maxHeartbeats 3200000 in
theorem shape7 (hK : x.kind = 7) (hk : Tree (fun _ => True) w kv x.kids) (hn : Rd (fun _ => True) strV w nv x.names) : Calls Tryz.prog 72 #[ndV x kv nv] w (Back (.bool (shapeB x)) w) := by
 obtain ⟨ka, kc, rfl, -, -⟩ := hk.form
 obtain ⟨na, nc, rfl, hnc, hnm⟩ := hn.form
 unfold maxLen at hnm
 have hb1 := alloc_bel w (.cells #[.int .i64 x.kind, .string ⟨x.name.toArray⟩, .int .i64 x.num, .slice ka x.kids.length kc, .slice na x.names.length nc, .int .i64 x.at_] 94)
 have hB1 := Blk.made (T := 94) (cs := #[.int .i64 x.kind, .string ⟨x.name.toArray⟩, .int .i64 x.num, .slice ka x.kids.length kc, .slice na x.names.length nc, .int .i64 x.at_]) w
 have HB := bare_any x (.slice ka x.kids.length kc) (.slice na x.names.length nc) true false false (1 + Lx.arityL x.name)
 have HB := fun w' => HB w' rfl rfl
 have HNm := fun w' => name_any x.name w'
 have HAr := fun w' => Arity_at x.name w'
 have HCn := fun (w' : World) (h : Below w.heap.size w w') => cont_names _ x.names w' (hn.below h)
 unfold shapeB
 rw [hK, if_neg (by decide), if_neg (by decide), if_neg (by decide), if_neg (by decide), if_neg (by decide), if_pos rfl]
 unfold strV at HNm HAr
 unfold ndV at HB ⊢
 obtain ⟨q, hq⟩ : ∃ q, bareB x true false (1 + Lx.arityL x.name) false = q := ⟨_, rfl⟩
 obtain ⟨nm, hnm2⟩ : ∃ q, isName x.name = q := ⟨_, rfl⟩
 obtain ⟨ar, har⟩ : ∃ q, Lx.arityL x.name = q := ⟨_, rfl⟩
 obtain ⟨an, han⟩ : ∃ q, x.names.all isName = q := ⟨_, rfl⟩
 obtain ⟨kl, hkl⟩ : ∃ q, x.kids.length = q := ⟨_, rfl⟩
 obtain ⟨nl, hnl⟩ : ∃ q, x.names.length = q := ⟨_, rfl⟩
 have hrange := arity_in x.name
 rw [hnm2] at HNm
 rw [han] at HCn
 rw [har] at hrange HAr
 rw [hq] at HB
 simp only [hkl, hnl, hK] at HB HCn hb1 hB1 hnc ⊢
 try rw [hq]
 try rw [hnm2]
 try rw [han]
 try rw [har]
 try rw [har] at HB
 have HB := Lib.hid HB
 have HNm := Lib.hid HNm
 have HAr := Lib.hid HAr
 have HCn := Lib.hid HCn
 have HB1 := Lib.hid hB1
 have Hb1 := Lib.hid hb1
 have hlt := hB1.lt
 clear hk hn hq hnm2 han har hkl hb1 hB1 hK
 go_enter Tryz.func72, Tryz.ntmps72
 go_upto_region 14 with fail
 have haw : IntKind.i64.wrap (1 + ar) = 1 + ar := IntWalk.i64_in _ (by omega)
 have hS : ∀ v, Below (w.heap.size + 1) (w.alloc (.cells #[.int .i64 7, .string ⟨x.name.toArray⟩, .int .i64 x.num, .slice ka kl kc, .slice na nl nc, .int .i64 x.at_] 94)) v → (v.cell? ⟨w.heap.size, 0, none⟩ = some (.int .i64 7) ∧ v.cell? ⟨w.heap.size, 1, none⟩ = some (.string ⟨x.name.toArray⟩) ∧ v.cell? ⟨w.heap.size, 2, none⟩ = some (.int .i64 x.num) ∧ v.cell? ⟨w.heap.size, 3, none⟩ = some (.slice ka kl kc) ∧ v.cell? ⟨w.heap.size, 4, none⟩ = some (.slice na nl nc) ∧ v.cell? ⟨w.heap.size, 5, none⟩ = some (.int .i64 x.at_)) := fun v hv =>
  have h := HB1.out.below hv (by omega)
  ⟨h.c 0 _ rfl, h.c 1 _ rfl, h.c 2 _ rfl, h.c 3 _ rfl, h.c 4 _ rfl, h.c 5 _ rfl⟩
 have hz : (w.alloc (.cells #[.int .i64 7, .string ⟨x.name.toArray⟩, .int .i64 x.num, .slice ka kl kc, .slice na nl nc, .int .i64 x.at_] 94)).heap.size = w.heap.size + 1 := by simp
 obtain ⟨W0, hW0⟩ : ∃ W, w.alloc (.cells #[.int .i64 7, .string ⟨x.name.toArray⟩, .int .i64 x.num, .slice ka kl kc, .slice na nl nc, .int .i64 x.at_] 94) = W := ⟨_, rfl⟩
 rw [hW0] at hS hz ⊢
 have Hb0 : Hid (Below w.heap.size w W0) := Lib.hid (by rw [← hW0]; exact alloc_bel _ _)
 clear hW0
 refine wp_region_noPanic ?_
 refine Hd.start (fun v => v.cell? ⟨w.heap.size, 0, none⟩ = some (.int .i64 7) ∧ v.cell? ⟨w.heap.size, 1, none⟩ = some (.string ⟨x.name.toArray⟩) ∧ v.cell? ⟨w.heap.size, 2, none⟩ = some (.int .i64 x.num) ∧ v.cell? ⟨w.heap.size, 3, none⟩ = some (.slice ka kl kc) ∧ v.cell? ⟨w.heap.size, 4, none⟩ = some (.slice na nl nc) ∧ v.cell? ⟨w.heap.size, 5, none⟩ = some (.int .i64 x.at_)) (by kernel_rfl) (hS _ (Below.refl _ W0).drew) (fun hH0 => ?_)
 refine Hd.tk 0 5 hH0 ?_
 refine Hd.tk 1 2 hH0 ?_
 refine Hd.tk 2 3 hH0 ?_
 refine Hd.on 3 (fun K hK => ?_)
 go_simp
 refine (HAr.out _).mono ?_; rintro e w1 ⟨rfl, hb1⟩
 have hb1' : Below (w.heap.size + 1) W0 w1 := (Below.refl _ W0).drew.trans (hb1.mono (by simp [hz]))
 have HB1' := Lib.hid hb1'
 clear hb1 hb1'
 go_wp2_with fail
 refine hK.out _ _ (hS _ HB1'.out) (fun hH1 => ?_)
 clear hK K
 try simp only [Act.put, Hd.sa, Hd.sz, Hd.ss]
 refine Hd.tk 4 5 hH1 ?_
 refine Hd.on 5 (fun K hK => ?_)
 go_simp
 refine (HB.out _).mono ?_; rintro e w2 ⟨rfl, hb2⟩
 have hb2' : Below (w.heap.size + 1) W0 w2 := HB1'.out.trans (hb2.mono (by have := HB1'.out.size; omega))
 have HB2 := Lib.hid hb2'
 clear hb2 hb2'
 go_wp2_with fail
 refine hK.out _ _ (hS _ HB2.out) (fun hH2 => ?_)
 clear hK K
 try simp only [Act.put, Hd.sa, Hd.sz, Hd.ss]
 refine Hd.tk 6 7 hH2 ?_
 cases q with
 | false =>
  refine Hd.sk 7 8 hH2 ?_
  refine Hd.sk 8 9 hH2 ?_
  refine Hd.sk 9 10 hH2 ?_
  refine Hd.sk 10 11 hH2 ?_
  refine Hd.tk 11 12 hH2 ?_
  refine Hd.la 12 (fun K hK => ?_)
  go_simp
  refine hK.out _ _ ?_
  clear hK K
  try simp only [Act.put, Hd.sa, Hd.sz, Hd.ss]
  simp only [NoPanic]
  clear hH0 hH1 hH2 hS
  go_wp2_with fail
  go_ret
  exact ⟨by simp, Hb0.out.trans (HB2.out.mono (by omega))⟩
 | true =>
  refine Hd.tk 7 8 hH2 ?_
  refine Hd.tk 8 9 hH2 ?_
  refine Hd.on 9 (fun K hK => ?_)
  go_simp
  refine (HAr.out _).mono ?_; rintro e w3 ⟨rfl, hb3⟩
  have hb3' : Below (w.heap.size + 1) W0 w3 := HB2.out.trans (hb3.mono (by have := HB2.out.size; omega))
  have HB3 := Lib.hid hb3'
  clear hb3 hb3'
  go_wp2_with fail
  refine hK.out _ _ (hS _ HB3.out) (fun hH3 => ?_)
  clear hK K
  try simp only [Act.put, Hd.sa, Hd.sz, Hd.ss]
  refine Hd.tk 10 11 hH3 ?_
  refine Hd.tk 11 12 hH3 ?_
  refine Hd.la 12 (fun K hK => ?_)
  go_simp
  refine hK.out _ _ ?_
  clear hK K
  try simp only [Act.put, Hd.sa, Hd.sz, Hd.ss]
  simp only [NoPanic]
  clear hH0 hH1 hH2 hH3 hS
  go_wp2_with fail
  go_ret
  exact ⟨by simp, Hb0.out.trans (HB3.out.mono (by omega))⟩
set_option maxRecDepth 100000 in
set_option maxHeartbeats 3200000 in
theorem shape8 (hK : x.kind = 8) (hk : Tree (fun _ => True) w kv x.kids) (hn : Rd (fun _ => True) strV w nv x.names) : Calls Tryz.prog 72 #[ndV x kv nv] w (Back (.bool (shapeB x)) w) := by
 obtain ⟨ka, kc, rfl, -, -⟩ := hk.form
 obtain ⟨na, nc, rfl, hnc, hnm⟩ := hn.form
 unfold maxLen at hnm
 have hb1 := alloc_bel w (.cells #[.int .i64 x.kind, .string ⟨x.name.toArray⟩, .int .i64 x.num, .slice ka x.kids.length kc, .slice na x.names.length nc, .int .i64 x.at_] 94)
 have hB1 := Blk.made (T := 94) (cs := #[.int .i64 x.kind, .string ⟨x.name.toArray⟩, .int .i64 x.num, .slice ka x.kids.length kc, .slice na x.names.length nc, .int .i64 x.at_]) w
 have HB := bare_any x (.slice ka x.kids.length kc) (.slice na x.names.length nc) false false false (-1)
 have HB := fun w' => HB w' rfl rfl
 have HNm := fun w' => name_any x.name w'
 have HAr := fun w' => Arity_at x.name w'
 have HCn := fun (w' : World) (h : Below w.heap.size w w') => cont_names _ x.names w' (hn.below h)
 unfold shapeB
 rw [hK, if_neg (by decide), if_neg (by decide), if_neg (by decide), if_neg (by decide), if_neg (by decide), if_neg (by decide), if_pos rfl]
 unfold strV at HNm HAr
 unfold ndV at HB ⊢
 obtain ⟨q, hq⟩ : ∃ q, bareB x false false (-1) false = q := ⟨_, rfl⟩
 obtain ⟨nm, hnm2⟩ : ∃ q, isName x.name = q := ⟨_, rfl⟩
 obtain ⟨ar, har⟩ : ∃ q, Lx.arityL x.name = q := ⟨_, rfl⟩
 obtain ⟨an, han⟩ : ∃ q, x.names.all isName = q := ⟨_, rfl⟩
 obtain ⟨kl, hkl⟩ : ∃ q, x.kids.length = q := ⟨_, rfl⟩
 obtain ⟨nl, hnl⟩ : ∃ q, x.names.length = q := ⟨_, rfl⟩
 have hrange := arity_in x.name
 rw [hnm2] at HNm
 rw [han] at HCn
 rw [har] at hrange HAr
 rw [hq] at HB
 simp only [hkl, hnl, hK] at HB HCn hb1 hB1 hnc ⊢
 try rw [hq]
 try rw [hnm2]
 try rw [han]
 try rw [har]
 try rw [har] at HB
 have HB := Lib.hid HB
 have HNm := Lib.hid HNm
 have HAr := Lib.hid HAr
 have HCn := Lib.hid HCn
 have HB1 := Lib.hid hB1
 have Hb1 := Lib.hid hb1
 have hlt := hB1.lt
 clear hk hn hq hnm2 han har hkl hb1 hB1 hK
 go_enter Tryz.func72, Tryz.ntmps72
 go_wp2_with fail
 refine (HB.out _).mono ?_; rintro e w1 ⟨rfl, hb2⟩
 have hk2 := HB1.out.below hb2 hlt
 have c0 := hk2.c 0 _ rfl
 have c1 := hk2.c 1 _ rfl
 have c2 := hk2.c 2 _ rfl
 have c3 := hk2.c 3 _ rfl
 have c4 := hk2.c 4 _ rfl
 have hb3 := Hb1.out.trans (hb2.mono Hb1.out.size)
 have Hb3 := Lib.hid hb3
 clear hb3 hb2 hk2
 have hge : decide ((2 : Int) ≤ (kl : Int)) = decide (2 ≤ kl) := by simp; omega
 cases q with
 | false =>
  go_wp2_with fail
  go_ret
  exact ⟨by simp, Hb3.out⟩
 | true =>
  go_wp2_with fail
  go_ret
  exact ⟨by simp <;> omega, Hb3.out⟩
set_option maxRecDepth 100000 in
set_option maxHeartbeats 3200000 in
theorem shape9 (hK : x.kind = 9) (hk : Tree (fun _ => True) w kv x.kids) (hn : Rd (fun _ => True) strV w nv x.names) : Calls Tryz.prog 72 #[ndV x kv nv] w (Back (.bool (shapeB x)) w) := by
 obtain ⟨ka, kc, rfl, -, -⟩ := hk.form
 obtain ⟨na, nc, rfl, hnc, hnm⟩ := hn.form
 unfold maxLen at hnm
 have hb1 := alloc_bel w (.cells #[.int .i64 x.kind, .string ⟨x.name.toArray⟩, .int .i64 x.num, .slice ka x.kids.length kc, .slice na x.names.length nc, .int .i64 x.at_] 94)
 have hB1 := Blk.made (T := 94) (cs := #[.int .i64 x.kind, .string ⟨x.name.toArray⟩, .int .i64 x.num, .slice ka x.kids.length kc, .slice na x.names.length nc, .int .i64 x.at_]) w
 have HB := bare_any x (.slice ka x.kids.length kc) (.slice na x.names.length nc) false true true (-1)
 have HB := fun w' => HB w' rfl rfl
 have HNm := fun w' => name_any x.name w'
 have HAr := fun w' => Arity_at x.name w'
 have HCn := fun (w' : World) (h : Below w.heap.size w w') => cont_names _ x.names w' (hn.below h)
 unfold shapeB
 rw [hK, if_neg (by decide), if_neg (by decide), if_neg (by decide), if_neg (by decide), if_neg (by decide), if_neg (by decide), if_neg (by decide), if_pos rfl]
 unfold strV at HNm HAr
 unfold ndV at HB ⊢
 obtain ⟨q, hq⟩ : ∃ q, bareB x false true (-1) true = q := ⟨_, rfl⟩
 obtain ⟨nm, hnm2⟩ : ∃ q, isName x.name = q := ⟨_, rfl⟩
 obtain ⟨ar, har⟩ : ∃ q, Lx.arityL x.name = q := ⟨_, rfl⟩
 obtain ⟨an, han⟩ : ∃ q, x.names.all isName = q := ⟨_, rfl⟩
 obtain ⟨kl, hkl⟩ : ∃ q, x.kids.length = q := ⟨_, rfl⟩
 obtain ⟨nl, hnl⟩ : ∃ q, x.names.length = q := ⟨_, rfl⟩
 have hrange := arity_in x.name
 rw [hnm2] at HNm
 rw [han] at HCn
 rw [har] at hrange HAr
 rw [hq] at HB
 simp only [hkl, hnl, hK] at HB HCn hb1 hB1 hnc ⊢
 try rw [hq]
 try rw [hnm2]
 try rw [han]
 try rw [har]
 try rw [har] at HB
 have HB := Lib.hid HB
 have HNm := Lib.hid HNm
 have HAr := Lib.hid HAr
 have HCn := Lib.hid HCn
 have HB1 := Lib.hid hB1
 have Hb1 := Lib.hid hb1
 have hlt := hB1.lt
 clear hk hn hq hnm2 han har hkl hb1 hB1 hK
 go_enter Tryz.func72, Tryz.ntmps72
 go_wp2_with fail
 refine (HB.out _).mono ?_; rintro e w1 ⟨rfl, hb2⟩
 have hk2 := HB1.out.below hb2 hlt
 have c0 := hk2.c 0 _ rfl
 have c1 := hk2.c 1 _ rfl
 have c2 := hk2.c 2 _ rfl
 have c3 := hk2.c 3 _ rfl
 have c4 := hk2.c 4 _ rfl
 have hb3 := Hb1.out.trans (hb2.mono Hb1.out.size)
 have Hb3 := Lib.hid hb3
 clear hb3 hb2 hk2
 have HC9 := Lib.hid (HCn.out _ Hb3.out)
 cases q with
 | false =>
  go_wp2_with fail
  go_ret
  exact ⟨by simp, Hb3.out⟩
 | true =>
  by_cases h0 : 0 ≤ x.num
  · have e0 := Lib.hid (decide_eq_true h0)
    by_cases h1 : x.num ≤ (nl : Int)
    · have e1 := Lib.hid (decide_eq_true h1)
      go_wp2_with fail
      refine HC9.out.mono ?_; rintro e w2 ⟨rfl, hb4⟩
      have Hb5 := Lib.hid (Hb3.out.trans (hb4.mono Hb3.out.size))
      clear hb4
      go_wp2_with fail
      go_ret
      exact ⟨by rw [e0.out, e1.out] <;> simp, Hb5.out⟩
    have e1 := Lib.hid (decide_eq_false h1)
    go_wp2_with fail
    go_ret
    exact ⟨by rw [e1.out] <;> simp, Hb3.out⟩
  have e0 := Lib.hid (decide_eq_false h0)
  go_wp2_with fail
  go_ret
  exact ⟨by rw [e0.out] <;> simp, Hb3.out⟩
set_option maxRecDepth 100000 in
set_option maxHeartbeats 3200000 in
theorem shape10 (hK : x.kind = 10) (hk : Tree (fun _ => True) w kv x.kids) (hn : Rd (fun _ => True) strV w nv x.names) : Calls Tryz.prog 72 #[ndV x kv nv] w (Back (.bool (shapeB x)) w) := by
 obtain ⟨ka, kc, rfl, -, -⟩ := hk.form
 obtain ⟨na, nc, rfl, hnc, hnm⟩ := hn.form
 unfold maxLen at hnm
 have hb1 := alloc_bel w (.cells #[.int .i64 x.kind, .string ⟨x.name.toArray⟩, .int .i64 x.num, .slice ka x.kids.length kc, .slice na x.names.length nc, .int .i64 x.at_] 94)
 have hB1 := Blk.made (T := 94) (cs := #[.int .i64 x.kind, .string ⟨x.name.toArray⟩, .int .i64 x.num, .slice ka x.kids.length kc, .slice na x.names.length nc, .int .i64 x.at_]) w
 have HB := bare_any x (.slice ka x.kids.length kc) (.slice na x.names.length nc) false false false 1
 have HB := fun w' => HB w' rfl rfl
 have HNm := fun w' => name_any x.name w'
 have HAr := fun w' => Arity_at x.name w'
 have HCn := fun (w' : World) (h : Below w.heap.size w w') => cont_names _ x.names w' (hn.below h)
 unfold shapeB
 rw [hK, if_neg (by decide), if_neg (by decide), if_neg (by decide), if_neg (by decide), if_neg (by decide), if_neg (by decide), if_neg (by decide), if_neg (by decide), if_pos rfl]
 unfold strV at HNm HAr
 unfold ndV at HB ⊢
 obtain ⟨q, hq⟩ : ∃ q, bareB x false false 1 false = q := ⟨_, rfl⟩
 obtain ⟨nm, hnm2⟩ : ∃ q, isName x.name = q := ⟨_, rfl⟩
 obtain ⟨ar, har⟩ : ∃ q, Lx.arityL x.name = q := ⟨_, rfl⟩
 obtain ⟨an, han⟩ : ∃ q, x.names.all isName = q := ⟨_, rfl⟩
 obtain ⟨kl, hkl⟩ : ∃ q, x.kids.length = q := ⟨_, rfl⟩
 obtain ⟨nl, hnl⟩ : ∃ q, x.names.length = q := ⟨_, rfl⟩
 have hrange := arity_in x.name
 rw [hnm2] at HNm
 rw [han] at HCn
 rw [har] at hrange HAr
 rw [hq] at HB
 simp only [hkl, hnl, hK] at HB HCn hb1 hB1 hnc ⊢
 try rw [hq]
 try rw [hnm2]
 try rw [han]
 try rw [har]
 try rw [har] at HB
 have HB := Lib.hid HB
 have HNm := Lib.hid HNm
 have HAr := Lib.hid HAr
 have HCn := Lib.hid HCn
 have HB1 := Lib.hid hB1
 have Hb1 := Lib.hid hb1
 have hlt := hB1.lt
 clear hk hn hq hnm2 han har hkl hb1 hB1 hK
 go_enter Tryz.func72, Tryz.ntmps72
 go_wp2_with fail
 refine (HB.out _).mono ?_; rintro e w1 ⟨rfl, hb2⟩
 have hk2 := HB1.out.below hb2 hlt
 have c0 := hk2.c 0 _ rfl
 have c1 := hk2.c 1 _ rfl
 have c2 := hk2.c 2 _ rfl
 have c3 := hk2.c 3 _ rfl
 have c4 := hk2.c 4 _ rfl
 have hb3 := Hb1.out.trans (hb2.mono Hb1.out.size)
 have Hb3 := Lib.hid hb3
 clear hb3 hb2 hk2
 go_wp2_with fail
 go_ret
 exact ⟨by simp, Hb3.out⟩
set_option maxRecDepth 100000 in
set_option maxHeartbeats 3200000 in
theorem shape11 (hK : x.kind = 11) (hk : Tree (fun _ => True) w kv x.kids) (hn : Rd (fun _ => True) strV w nv x.names) : Calls Tryz.prog 72 #[ndV x kv nv] w (Back (.bool (shapeB x)) w) := by
 obtain ⟨ka, kc, rfl, -, -⟩ := hk.form
 obtain ⟨na, nc, rfl, hnc, hnm⟩ := hn.form
 unfold maxLen at hnm
 have hb1 := alloc_bel w (.cells #[.int .i64 x.kind, .string ⟨x.name.toArray⟩, .int .i64 x.num, .slice ka x.kids.length kc, .slice na x.names.length nc, .int .i64 x.at_] 94)
 have hB1 := Blk.made (T := 94) (cs := #[.int .i64 x.kind, .string ⟨x.name.toArray⟩, .int .i64 x.num, .slice ka x.kids.length kc, .slice na x.names.length nc, .int .i64 x.at_]) w
 have HB := bare_any x (.slice ka x.kids.length kc) (.slice na x.names.length nc) false false false 0
 have HB := fun w' => HB w' rfl rfl
 have HNm := fun w' => name_any x.name w'
 have HAr := fun w' => Arity_at x.name w'
 have HCn := fun (w' : World) (h : Below w.heap.size w w') => cont_names _ x.names w' (hn.below h)
 unfold shapeB
 rw [hK, if_neg (by decide), if_neg (by decide), if_neg (by decide), if_neg (by decide), if_neg (by decide), if_neg (by decide), if_neg (by decide), if_neg (by decide), if_neg (by decide)]
 unfold strV at HNm HAr
 unfold ndV at HB ⊢
 obtain ⟨q, hq⟩ : ∃ q, bareB x false false 0 false = q := ⟨_, rfl⟩
 obtain ⟨nm, hnm2⟩ : ∃ q, isName x.name = q := ⟨_, rfl⟩
 obtain ⟨ar, har⟩ : ∃ q, Lx.arityL x.name = q := ⟨_, rfl⟩
 obtain ⟨an, han⟩ : ∃ q, x.names.all isName = q := ⟨_, rfl⟩
 obtain ⟨kl, hkl⟩ : ∃ q, x.kids.length = q := ⟨_, rfl⟩
 obtain ⟨nl, hnl⟩ : ∃ q, x.names.length = q := ⟨_, rfl⟩
 have hrange := arity_in x.name
 rw [hnm2] at HNm
 rw [han] at HCn
 rw [har] at hrange HAr
 rw [hq] at HB
 simp only [hkl, hnl, hK] at HB HCn hb1 hB1 hnc ⊢
 try rw [hq]
 try rw [hnm2]
 try rw [han]
 try rw [har]
 try rw [har] at HB
 have HB := Lib.hid HB
 have HNm := Lib.hid HNm
 have HAr := Lib.hid HAr
 have HCn := Lib.hid HCn
 have HB1 := Lib.hid hB1
 have Hb1 := Lib.hid hb1
 have hlt := hB1.lt
 clear hk hn hq hnm2 han har hkl hb1 hB1 hK
 go_enter Tryz.func72, Tryz.ntmps72
 go_wp2_with fail
 refine (HB.out _).mono ?_; rintro e w1 ⟨rfl, hb2⟩
 have hk2 := HB1.out.below hb2 hlt
 have c0 := hk2.c 0 _ rfl
 have c1 := hk2.c 1 _ rfl
 have c2 := hk2.c 2 _ rfl
 have c3 := hk2.c 3 _ rfl
 have c4 := hk2.c 4 _ rfl
 have hb3 := Hb1.out.trans (hb2.mono Hb1.out.size)
 have Hb3 := Lib.hid hb3
 clear hb3 hb2 hk2
 go_wp2_with fail
 go_ret
 exact ⟨by simp, Hb3.out⟩
set_option maxRecDepth 100000 in
set_option maxHeartbeats 3200000 in
theorem shapeX (h1 : x.kind ≠ 1) (h2 : x.kind ≠ 2) (h3 : x.kind ≠ 3) (h4 : x.kind ≠ 4) (h5 : x.kind ≠ 5) (h6 : x.kind ≠ 6) (h7 : x.kind ≠ 7) (h8 : x.kind ≠ 8) (h9 : x.kind ≠ 9) (h10 : x.kind ≠ 10) (h11 : x.kind ≠ 11) : Calls Tryz.prog 72 #[ndV x kv nv] w (Back (.bool (shapeB x)) w) := by
 have e : shapeB x = false := by
  unfold shapeB
  rw [if_neg h1, if_neg (by omega), if_neg h4, if_neg h5, if_neg h6, if_neg h7, if_neg h8, if_neg h9, if_neg h10]
  simp [h11]
 rw [e]
 unfold ndV
 obtain ⟨K, hK⟩ : ∃ k, x.kind = k := ⟨_, rfl⟩
 rw [hK]
 have b1 : (K == 1) = false := beq_eq_false_iff_ne.2 (by rw [← hK]; exact h1)
 have b2 : (K == 2) = false := beq_eq_false_iff_ne.2 (by rw [← hK]; exact h2)
 have b3 : (K == 3) = false := beq_eq_false_iff_ne.2 (by rw [← hK]; exact h3)
 have b4 : (K == 4) = false := beq_eq_false_iff_ne.2 (by rw [← hK]; exact h4)
 have b5 : (K == 5) = false := beq_eq_false_iff_ne.2 (by rw [← hK]; exact h5)
 have b6 : (K == 6) = false := beq_eq_false_iff_ne.2 (by rw [← hK]; exact h6)
 have b7 : (K == 7) = false := beq_eq_false_iff_ne.2 (by rw [← hK]; exact h7)
 have b8 : (K == 8) = false := beq_eq_false_iff_ne.2 (by rw [← hK]; exact h8)
 have b9 : (K == 9) = false := beq_eq_false_iff_ne.2 (by rw [← hK]; exact h9)
 have b10 : (K == 10) = false := beq_eq_false_iff_ne.2 (by rw [← hK]; exact h10)
 have b11 : (K == 11) = false := beq_eq_false_iff_ne.2 (by rw [← hK]; exact h11)
 clear h1 h2 h3 h4 h5 h6 h7 h8 h9 h10 h11 hK e
 go_enter Tryz.func72, Tryz.ntmps72
 go_wp2_with fail
 go_ret
 exact ⟨by simp, alloc_bel _ _⟩
theorem shape_any (hk : Tree (fun _ => True) w kv x.kids) (hn : Rd (fun _ => True) strV w nv x.names) : Calls Tryz.prog 72 #[ndV x kv nv] w (Back (.bool (shapeB x)) w) := by
 by_cases h1 : x.kind = 1
 · exact shape1 h1 hk hn
 by_cases h2 : x.kind = 2
 · exact shape2 h2 hk hn
 by_cases h3 : x.kind = 3
 · exact shape3 h3 hk hn
 by_cases h4 : x.kind = 4
 · exact shape4 h4 hk hn
 by_cases h5 : x.kind = 5
 · exact shape5 h5 hk hn
 by_cases h6 : x.kind = 6
 · exact shape6 h6 hk hn
 by_cases h7 : x.kind = 7
 · exact shape7 h7 hk hn
 by_cases h8 : x.kind = 8
 · exact shape8 h8 hk hn
 by_cases h9 : x.kind = 9
 · exact shape9 h9 hk hn
 by_cases h10 : x.kind = 10
 · exact shape10 h10 hk hn
 by_cases h11 : x.kind = 11
 · exact shape11 h11 hk hn
 exact shapeX h1 h2 h3 h4 h5 h6 h7 h8 h9 h10 h11
end
end Tr
end Go.Proofs.YtmmgfifpjifjnaaGreatDoor
namespace Go.Proofs.YtmmgfifpjifjnaaGreatDoor
open Go.RowKit
namespace Tr
open Bs Sm
theorem ent100 : Ent 119 := enters_of Tryz.func119 (by kernel_rfl) rfl
theorem ent101 : Ent 120 := enters_of Tryz.func120 (by kernel_rfl) rfl
theorem ent68 : Ent 74 := enters_of Tryz.func74 (by kernel_rfl) rfl
theorem all_lit (v : Value) (l : List Nd) (w : World) (hl : Tree (fun _ => True) w v l) : Calls Tryz.prog 43 #[v, .func (.func 119) #[] #[]] w (Back (.bool (l.all litB)) w) :=
 all_any _ #[] litB v l w w hl (Below.refl _ _) ⟨ent100, fun x kv nv w' _ _ _ _ => literal_any⟩
theorem all_val (v : Value) (l : List Nd) (w : World) (hl : Tree (fun _ => True) w v l) : Calls Tryz.prog 43 #[v, .func (.func 120) #[] #[]] w (Back (.bool (l.all valB)) w) :=
 all_any _ #[] valB v l w w hl (Below.refl _ _) ⟨ent101, fun x kv nv w' _ _ _ _ => value_any⟩
theorem all_holed (v : Value) (l : List Nd) (w : World) (hl : Tree (fun _ => True) w v l) : Calls Tryz.prog 43 #[v, .func (.func 74) #[] #[]] w (Back (.bool (l.all holed)) w) :=
 all_any _ #[] holed v l w w hl (Below.refl _ _) ⟨ent68, fun x kv nv w' _ _ hk _ => holed_any hk⟩
section
variable {x : Nd} {kv nv : Value} {w : World}
set_option maxRecDepth 100000 in
set_option maxHeartbeats 3200000 in
theorem kids4 (hK : x.kind = 4) (hk : Tree (fun _ => True) w kv x.kids) : Calls Tryz.prog 73 #[ndV x kv nv] w (Back (.bool (kidsB x)) w) := by
 have HA := fun (w' : World) (h : Below w.heap.size w w') => all_lit kv x.kids w' (hk.bel h)
 obtain ⟨ka, kc, rfl, -, -⟩ := hk.form
 have Hb1 := Lib.hid (alloc_bel w (.cells #[.int .i64 4, .string ⟨x.name.toArray⟩, .int .i64 x.num, .slice ka x.kids.length kc, nv, .int .i64 x.at_] 94))
 unfold kidsB ndV
 rw [hK, if_pos rfl]
 obtain ⟨q, hq⟩ : ∃ q, x.kids.all litB = q := ⟨_, rfl⟩
 rw [hq] at HA ⊢
 have HA := Lib.hid (HA _ Hb1.out)
 clear hk hq hK
 go_enter Tryz.func73, Tryz.ntmps73
 go_wp2_with fail
 refine HA.out.mono ?_; rintro e w1 ⟨rfl, hb2⟩
 go_wp2_with fail
 go_ret
 exact ⟨by simp, Hb1.out.trans (hb2.mono Hb1.out.size)⟩
set_option maxRecDepth 100000 in
set_option maxHeartbeats 3200000 in
theorem kids9 (hK : x.kind = 9) (hk : Tree (fun _ => True) w kv x.kids) : Calls Tryz.prog 73 #[ndV x kv nv] w (Back (.bool (kidsB x)) w) := by
 have HA := fun (w' : World) (h : Below w.heap.size w w') => statements_any kv x.kids w' (hk.bel h)
 obtain ⟨ka, kc, rfl, -, -⟩ := hk.form
 have Hb1 := Lib.hid (alloc_bel w (.cells #[.int .i64 9, .string ⟨x.name.toArray⟩, .int .i64 x.num, .slice ka x.kids.length kc, nv, .int .i64 x.at_] 94))
 unfold kidsB ndV
 rw [hK, if_neg (by decide), if_pos rfl]
 obtain ⟨q, hq⟩ : ∃ q, bodyB x.kids = q := ⟨_, rfl⟩
 rw [hq] at HA ⊢
 have HA := Lib.hid (HA _ Hb1.out)
 clear hk hq hK
 go_enter Tryz.func73, Tryz.ntmps73
 go_wp2_with fail
 refine HA.out.mono ?_; rintro e w1 ⟨rfl, hb2⟩
 go_wp2_with fail
 go_ret
 exact ⟨by simp, Hb1.out.trans (hb2.mono Hb1.out.size)⟩
set_option maxRecDepth 100000 in
set_option maxHeartbeats 3200000 in
theorem kidsX (h4 : x.kind ≠ 4) (h9 : x.kind ≠ 9) (h8 : x.kind ≠ 8) (h7 : x.kind ≠ 7) (hk : Tree (fun _ => True) w kv x.kids) : Calls Tryz.prog 73 #[ndV x kv nv] w (Back (.bool (kidsB x)) w) := by
 have HA := fun (w' : World) (h : Below w.heap.size w w') => all_val kv x.kids w' (hk.bel h)
 obtain ⟨ka, kc, rfl, -, -⟩ := hk.form
 obtain ⟨K, hK⟩ : ∃ q, x.kind = q := ⟨_, rfl⟩
 have Hb1 := Lib.hid (alloc_bel w (.cells #[.int .i64 K, .string ⟨x.name.toArray⟩, .int .i64 x.num, .slice ka x.kids.length kc, nv, .int .i64 x.at_] 94))
 unfold kidsB ndV
 rw [if_neg h4, if_neg h9, if_neg h8, if_neg h7, hK]
 have b4 : (K == 4) = false := beq_eq_false_iff_ne.2 (by rw [← hK]; exact h4)
 have b7 : (K == 7) = false := beq_eq_false_iff_ne.2 (by rw [← hK]; exact h7)
 have b8 : (K == 8) = false := beq_eq_false_iff_ne.2 (by rw [← hK]; exact h8)
 have b9 : (K == 9) = false := beq_eq_false_iff_ne.2 (by rw [← hK]; exact h9)
 obtain ⟨q, hq⟩ : ∃ q, x.kids.all valB = q := ⟨_, rfl⟩
 rw [hq] at HA ⊢
 have HA := Lib.hid (HA _ Hb1.out)
 clear hk hq hK h4 h7 h8 h9
 go_enter Tryz.func73, Tryz.ntmps73
 go_wp2_with fail
 refine HA.out.mono ?_; rintro e w1 ⟨rfl, hb2⟩
 go_wp2_with fail
 go_ret
 exact ⟨by simp, Hb1.out.trans (hb2.mono Hb1.out.size)⟩
set_option maxRecDepth 100000 in
set_option maxHeartbeats 3200000 in
theorem kids70 (hK : x.kind = 7) {ka : Option Addr} {kc : Nat} (hkc : kc ≠ 1) (h1 : 1 ≤ x.kids.length) (hk : Tree (fun _ => True) w (.slice ka x.kids.length kc) x.kids) : Calls Tryz.prog 73 #[ndV x (.slice ka x.kids.length kc) nv] w (Back (.bool (kidsB x)) w) := by
 obtain ⟨hn0, hc, hm⟩ := hk.len
 unfold maxLen at hm
 obtain ⟨gb, off, y, ya, yc, za, zc, rfl, hy, hgb, -, ⟨c0, -, -, -, -, -⟩, -, -⟩ := hk.nth 0 (by omega)
 have hp := hk.part 1 x.kids.length h1 (Nat.le_refl _) (a' := some ⟨gb, off + 1 * 6, none⟩) (.inr ⟨gb, off, rfl, rfl⟩)
 rw [List.take_length] at hp
 obtain ⟨l, hl⟩ : ∃ l, x.kids = y :: l := by
  cases h : x.kids with
  | nil => rw [h] at h1; simp at h1
  | cons z l => rw [h] at hy; cases hy; exact ⟨l, rfl⟩
 have hn : x.kids.length = l.length + 1 := by rw [hl]; rfl
 rw [hl, List.drop_one, List.tail_cons] at hp
 obtain ⟨n, hnn⟩ : ∃ n, l.length = n := ⟨_, rfl⟩
 rw [hnn] at hn
 have hs : (y :: l).length = n + 1 := by rw [← hnn]; rfl
 rw [hs] at hp
 have d0 : decide ((1 : Int) ≤ (n : Int) + 1) = true := decide_eq_true (by omega)
 have Hb1 := Lib.hid (alloc_bel w (.cells #[.int .i64 7, .string ⟨x.name.toArray⟩, .int .i64 x.num, .slice (some ⟨gb, off, none⟩) (n + 1) kc, nv, .int .i64 x.at_] 94))
 have hB1 := Blk.made (T := 94) (cs := #[.int .i64 7, .string ⟨x.name.toArray⟩, .int .i64 x.num, .slice (some ⟨gb, off, none⟩) (n + 1) kc, nv, .int .i64 x.at_]) w
 have HA := all_val _ l _ (hp.bel Hb1.out)
 simp only [Nat.one_mul, Nat.add_sub_cancel] at HA
 clear hp hnn hs
 unfold kidsB ndV
 rw [hK, if_neg (by decide), if_neg (by decide), if_neg (by decide), if_pos rfl, hn, hl]
 dsimp only
 rw [hn] at hc
 obtain ⟨Y, hY⟩ : ∃ q, y.kind = q := ⟨_, rfl⟩
 rw [hY] at c0 ⊢
 obtain ⟨q, hq⟩ : ∃ q, l.all valB = q := ⟨_, rfl⟩
 rw [hq] at HA ⊢
 have HA := Lib.hid HA
 have HB1 := Lib.hid hB1
 have hlt := hB1.lt
 simp only [Nat.zero_mul, Nat.add_zero] at c0
 have HC0 := Lib.hid c0
 clear hk hq hK hB1 hl hn0 hn h1 hy hY c0
 go_enter Tryz.func73, Tryz.ntmps73
 go_wp2_with fail
 all_goals first | (exfalso; omega) | skip
 refine HA.out.mono ?_; rintro e w1 ⟨rfl, hb2⟩
 have hk2 := HB1.out.below hb2 hlt
 have e3 := hk2.c 3 _ rfl
 have hb3 := Hb1.out.trans (hb2.mono Hb1.out.size)
 have e0 : w1.cell? ⟨gb, off, none⟩ = some (.int .i64 Y) := (hb3.cell (p := ⟨gb, off, none⟩) hgb).trans HC0.out
 have Hb3 := Lib.hid hb3
 clear hb2 hk2 hb3
 cases q with
 | false =>
  go_wp2_with fail
  go_ret
  exact ⟨by simp, Hb3.out⟩
 | true =>
  go_wp2_with fail
  go_ret
  exact ⟨by simp <;> rfl, Hb3.out⟩
set_option maxRecDepth 100000 in
set_option maxHeartbeats 3200000 in
theorem kids71 (hK : x.kind = 7) {ka : Option Addr} (h1 : x.kids.length = 1) (hk : Tree (fun _ => True) w (.slice ka x.kids.length 1) x.kids) : Calls Tryz.prog 73 #[ndV x (.slice ka x.kids.length 1) nv] w (Back (.bool (kidsB x)) w) := by
 obtain ⟨hn0, hc, hm⟩ := hk.len
 unfold maxLen at hm
 obtain ⟨gb, off, y, ya, yc, za, zc, rfl, hy, hgb, -, ⟨c0, -, -, -, -, -⟩, -, -⟩ := hk.nth 0 (by omega)
 obtain ⟨l, hl⟩ : ∃ l, x.kids = y :: l := by
  cases h : x.kids with
  | nil => rw [h] at h1; simp at h1
  | cons z l => rw [h] at hy; cases hy; exact ⟨l, rfl⟩
 have hn : x.kids.length = 1 := h1
 have hl0 : l = [] := by
  rw [hl] at h1
  exact List.eq_nil_of_length_eq_zero (by simpa using h1)
 have Hb1 := Lib.hid (alloc_bel w (.cells #[.int .i64 7, .string ⟨x.name.toArray⟩, .int .i64 x.num, .slice (some ⟨gb, off, none⟩) 1 1, nv, .int .i64 x.at_] 94))
 have hB1 := Blk.made (T := 94) (cs := #[.int .i64 7, .string ⟨x.name.toArray⟩, .int .i64 x.num, .slice (some ⟨gb, off, none⟩) 1 1, nv, .int .i64 x.at_]) w
 have HA := all_val (.slice (some ⟨gb, off, none⟩) 0 0) l (w.alloc (.cells #[.int .i64 7, .string ⟨x.name.toArray⟩, .int .i64 x.num, .slice (some ⟨gb, off, none⟩) 1 1, nv, .int .i64 x.at_] 94)) (Tree.empty _ _ _ (by rw [hl0]; rfl) rfl)
 unfold kidsB ndV
 rw [hK, if_neg (by decide), if_neg (by decide), if_neg (by decide), if_pos rfl, hn, hl]
 dsimp only
 rw [hn] at hc
 obtain ⟨Y, hY⟩ : ∃ q, y.kind = q := ⟨_, rfl⟩
 rw [hY] at c0 ⊢
 obtain ⟨q, hq⟩ : ∃ q, l.all valB = q := ⟨_, rfl⟩
 rw [hq] at HA ⊢
 have HA := Lib.hid HA
 have HB1 := Lib.hid hB1
 have hlt := hB1.lt
 simp only [Nat.zero_mul, Nat.add_zero] at c0
 have HC0 := Lib.hid c0
 clear hk hq hK hB1 hl hn0 hn h1 hy hY c0
 go_enter Tryz.func73, Tryz.ntmps73
 go_wp2_with fail
 all_goals first | (exfalso; omega) | skip
 refine HA.out.mono ?_; rintro e w1 ⟨rfl, hb2⟩
 have hk2 := HB1.out.below hb2 hlt
 have e3 := hk2.c 3 _ rfl
 have hb3 := Hb1.out.trans (hb2.mono Hb1.out.size)
 have e0 : w1.cell? ⟨gb, off, none⟩ = some (.int .i64 Y) := (hb3.cell (p := ⟨gb, off, none⟩) hgb).trans HC0.out
 have Hb3 := Lib.hid hb3
 clear hb2 hk2 hb3
 cases q with
 | false =>
  go_wp2_with fail
  go_ret
  exact ⟨by simp, Hb3.out⟩
 | true =>
  go_wp2_with fail
  go_ret
  exact ⟨by simp <;> rfl, Hb3.out⟩
theorem kids7 (hK : x.kind = 7) (h1 : 1 ≤ x.kids.length) (hk : Tree (fun _ => True) w kv x.kids) : Calls Tryz.prog 73 #[ndV x kv nv] w (Back (.bool (kidsB x)) w) := by
 obtain ⟨ka, kc, rfl, hc, hm⟩ := hk.form
 by_cases hkc : kc = 1
 · subst hkc
   exact kids71 hK (by omega) hk
 exact kids70 hK hkc h1 hk
set_option maxRecDepth 100000 in
set_option maxHeartbeats 3200000 in
theorem kids8 (hK : x.kind = 8) (h1 : 2 ≤ x.kids.length) (hk : Tree (fun _ => True) w kv x.kids) : Calls Tryz.prog 73 #[ndV x kv nv] w (Back (.bool (kidsB x)) w) := by
 obtain ⟨ka, kc, rfl, hc, hm⟩ := hk.form
 unfold maxLen at hm
 obtain ⟨gb, off, y, ya, yc, za, zc, rfl, hy, hgb, -, ⟨c0, c1, c2, c3, c4, c5⟩, hyk, -⟩ := hk.nth 0 (by omega)
 have hp := hk.part 1 x.kids.length (by omega) (Nat.le_refl _) (a' := some ⟨gb, off + 1 * 6, none⟩) (.inr ⟨gb, off, rfl, rfl⟩)
 rw [List.take_length] at hp
 obtain ⟨l, hl⟩ : ∃ l, x.kids = y :: l := by
  cases h : x.kids with
  | nil => rw [h] at h1; simp at h1
  | cons z l => rw [h] at hy; cases hy; exact ⟨l, rfl⟩
 have hn : x.kids.length = l.length + 1 := by rw [hl]; rfl
 rw [hl, List.drop_one, List.tail_cons] at hp
 obtain ⟨n, hnn⟩ : ∃ n, l.length = n := ⟨_, rfl⟩
 rw [hnn] at hn
 have hs : (y :: l).length = n + 1 := by rw [← hnn]; rfl
 rw [hs] at hp
 have Hb1 := Lib.hid (alloc_bel w (.cells #[.int .i64 8, .string ⟨x.name.toArray⟩, .int .i64 x.num, .slice (some ⟨gb, off, none⟩) (n + 1) kc, nv, .int .i64 x.at_] 94))
 have hB1 := Blk.made (T := 94) (cs := #[.int .i64 8, .string ⟨x.name.toArray⟩, .int .i64 x.num, .slice (some ⟨gb, off, none⟩) (n + 1) kc, nv, .int .i64 x.at_]) w
 have HA : ∀ w', Below w.heap.size w w' → Calls Tryz.prog 43 #[.slice (some ⟨gb, off + 6, none⟩) n (kc - 1), .func (.func 74) #[] #[]] w' (Back (.bool (l.all holed)) w') := fun w' hb => by
  have := all_holed _ l w' (hp.bel hb)
  simpa only [Nat.one_mul, Nat.add_sub_cancel] using this
 have HO : ∀ w', Below w.heap.size w w' → Calls Tryz.prog 74 #[ndV y (.slice ya y.kids.length yc) (.slice za y.names.length zc)] w' (Back (.bool (holed y)) w') := fun w' hb => holed_any (hyk.bel hb)
 unfold kidsB
 unfold ndV at HO ⊢
 rw [hK, if_neg (by decide), if_neg (by decide), if_pos rfl, hn, hl]
 dsimp only
 rw [hn] at hc
 obtain ⟨q, hq⟩ : ∃ q, l.all holed = q := ⟨_, rfl⟩
 obtain ⟨o, ho⟩ : ∃ q, holed y = q := ⟨_, rfl⟩
 obtain ⟨Y, hY⟩ : ∃ q, y.kind = q := ⟨_, rfl⟩
 rw [hq] at HA ⊢
 rw [ho] at HO ⊢
 rw [hY] at c0 HO ⊢
 have HA := Lib.hid HA
 have HO := Lib.hid (HO _ Hb1.out)
 have HB1 := Lib.hid hB1
 have hlt := hB1.lt
 have hn1 : 1 ≤ n := by omega
 have n1 : ¬ gb = w.heap.size := by omega
 have n2 : ¬ w.heap.size = gb := by omega
 simp only [Nat.zero_mul, Nat.add_zero] at c0 c1 c2 c3 c4 c5
 have d0 : decide ((1 : Int) ≤ (n : Int) + 1) = true := decide_eq_true (by omega)
 clear hk hq hK hp hB1 hl hnn hs hn h1 hy hY hyk ho
 by_cases h7 : Y = 7
 · subst h7
   go_enter Tryz.func73, Tryz.ntmps73
   go_wp2_with fail
   refine HO.out.mono ?_; rintro e w1 ⟨rfl, hb2⟩
   have hk2 := HB1.out.below hb2 hlt
   have e3 := hk2.c 3 _ rfl
   have hb3 := Hb1.out.trans (hb2.mono Hb1.out.size)
   have Hb3 := Lib.hid hb3
   have HA3 := Lib.hid (HA.out _ hb3)
   clear hb2 hk2 hb3
   cases o with
   | true =>
    go_wp2_with fail
    go_ret
    exact ⟨by simp, Hb3.out⟩
   | false =>
    go_wp2_with fail
    all_goals first | (exfalso; omega) | skip
    refine HA3.out.mono ?_; rintro e w2 ⟨rfl, hb4⟩
    have Hb5 := Lib.hid (Hb3.out.trans (hb4.mono Hb3.out.size))
    clear hb4
    go_wp2_with fail
    go_ret
    exact ⟨by simp, Hb5.out⟩
 have b7 : (Y == 7) = false := beq_eq_false_iff_ne.2 h7
 go_enter Tryz.func73, Tryz.ntmps73
 go_wp2_with fail
 go_ret
 exact ⟨by simp [b7], Hb1.out⟩
theorem kids_any (hs : shapeB x = true) (hk : Tree (fun _ => True) w kv x.kids) : Calls Tryz.prog 73 #[ndV x kv nv] w (Back (.bool (kidsB x)) w) := by
 by_cases h4 : x.kind = 4
 · exact kids4 h4 hk
 by_cases h9 : x.kind = 9
 · exact kids9 h9 hk
 by_cases h8 : x.kind = 8
 · refine kids8 h8 ?_ hk
   unfold shapeB at hs
   rw [h8, if_neg (by decide), if_neg (by decide), if_neg (by decide), if_neg (by decide), if_neg (by decide), if_neg (by decide), if_pos rfl] at hs
   simp only [Bool.and_eq_true, decide_eq_true_eq] at hs
   exact hs.2
 by_cases h7 : x.kind = 7
 · refine kids7 h7 ?_ hk
   unfold shapeB at hs
   rw [h7, if_neg (by decide), if_neg (by decide), if_neg (by decide), if_neg (by decide), if_neg (by decide), if_pos rfl] at hs
   unfold bareB at hs
   simp only [Bool.and_eq_true, Bool.or_eq_true, decide_eq_true_eq, beq_iff_eq] at hs
   have := hs.1.1.2
   omega
 exact kidsX h4 h9 h8 h7 hk
end
end Tr
end Go.Proofs.YtmmgfifpjifjnaaGreatDoor
namespace Go.Proofs.YtmmgfifpjifjnaaGreatDoor
open Go.RowKit
namespace Tr
open Bs Sm
theorem drop_at {l : List Nd} {k : Nat} {x : Nd} (hx : l[k]? = some x) : l.drop k = x :: l.drop (k + 1) := by
 have hk := List.getElem?_eq_some_iff.1 hx
 rw [List.drop_eq_getElem_cons hk.1, hk.2]
theorem fits_drop (m : Bool) (l : List Nd) (k : Nat) (x : Nd) (hx : l[k]? = some x) : fitsK (m && decide (0 < k)) m (l.drop k) = (fitsB x (m && decide (0 < k)) && fitsK (m && decide (0 < k + 1)) m (l.drop (k + 1))) := by
 rw [drop_at hx, fitsK_cons]
 have : decide (0 < k + 1) = true := decide_eq_true (by omega)
 rw [this, Bool.and_true]
def FitsK (l : List Nd) : Prop := ∀ y ∈ l, ∀ may w kv nv, Tree (fun _ => True) w kv y.kids → Rd (fun _ => True) strV w nv y.names → Calls Tryz.prog 45 #[ndV y kv nv, .bool may] w (Back (.bool (fitsB y may)) w)
set_option maxRecDepth 100000 in
set_option maxHeartbeats 3200000 in
theorem fits_step (x : Nd) (IH : FitsK x.kids) (may : Bool) (w : World) (kv nv : Value) (hk : Tree (fun _ => True) w kv x.kids) (hn : Rd (fun _ => True) strV w nv x.names) :
  Calls Tryz.prog 45 #[ndV x kv nv, .bool may] w (Back (.bool (fitsB x may)) w) := by
 obtain ⟨ka, kc, rfl, hc, hm⟩ := hk.form
 obtain ⟨na, nc, rfl, -, -⟩ := hn.form
 unfold maxLen at hm
 have Hb1 := Lib.hid (alloc_bel w (.cells #[.int .i64 x.kind, .string ⟨x.name.toArray⟩, .int .i64 x.num, .slice ka x.kids.length kc, .slice na x.names.length nc, .int .i64 x.at_] 94))
 have hB1 := Blk.made (T := 94) (cs := #[.int .i64 x.kind, .string ⟨x.name.toArray⟩, .int .i64 x.num, .slice ka x.kids.length kc, .slice na x.names.length nc, .int .i64 x.at_]) w
 have HS := fun (w' : World) (h : Below w.heap.size w w') => shape_any (hk.bel h) (hn.below h)
 have HD := fun (h1 : shapeB x = true) (w' : World) (h : Below w.heap.size w w') => kids_any (nv := .slice na x.names.length nc) h1 (hk.bel h)
 have HO := fun (w' : World) (h : Below w.heap.size w w') => holed_any (nv := .slice na x.names.length nc) (hk.bel h)
 have HT := fun (w' : World) (h : Below w.heap.size w w') => hk.bel h
 unfold fitsB
 obtain ⟨q1, hq1⟩ : ∃ q, shapeB x = q := ⟨_, rfl⟩
 obtain ⟨q2, hq2⟩ : ∃ q, kidsB x = q := ⟨_, rfl⟩
 obtain ⟨q3, hq3⟩ : ∃ q, holed x = q := ⟨_, rfl⟩
 obtain ⟨l, hl⟩ : ∃ l, x.kids = l := ⟨_, rfl⟩
 obtain ⟨n, hln⟩ : ∃ n, l.length = n := ⟨_, rfl⟩
 obtain ⟨K, hK⟩ : ∃ n, x.kind = n := ⟨_, rfl⟩
 have HLN := Lib.hid hln
 unfold ndV at HS HD HO ⊢
 rw [hq1] at HS HD ⊢
 rw [hq2] at HD ⊢
 rw [hq3] at HO ⊢
 rw [hl] at HS HD HO HT IH hB1 Hb1 hc ⊢
 rw [hln] at HS HD HO HT hB1 Hb1 hc ⊢
 rw [hK] at HS HD HO hB1 Hb1 ⊢
 obtain ⟨Q, hQ⟩ : ∃ Q, (q1 && q2 && !(q3 && !may) && fitsK false (K == 8) l) = Q := ⟨_, rfl⟩
 rw [hQ]
 have HQ := Lib.hid hQ
 replace HS := Lib.hid HS
 replace HD := Lib.hid HD
 replace HO := Lib.hid HO
 replace HT := Lib.hid HT
 replace IH := Lib.hid IH
 have HB1 := Lib.hid hB1
 have hlt := hB1.lt
 clear hk hn hl hln hK hB1 hq1 hq2 hq3 hQ
 go_enter Tryz.func45, Tryz.ntmps45
 go_wp2_with fail
 refine (HS.out _ Hb1.out).mono ?_; rintro e w1 ⟨rfl, hb1⟩
 have hk1 := HB1.out.below hb1 hlt
 have c0 := hk1.c 0 _ rfl
 have c1 := hk1.c 1 _ rfl
 have c2 := hk1.c 2 _ rfl
 have c3 := hk1.c 3 _ rfl
 have c4 := hk1.c 4 _ rfl
 have c5 := hk1.c 5 _ rfl
 have hbw1 := Hb1.out.trans (hb1.mono Hb1.out.size)
 have Hw1 := Lib.hid hbw1
 have HK1 := Lib.hid hk1
 have hlt1 := hk1.lt
 clear hb1 hbw1 hk1
 cases q1 with
 | false =>
  go_wp2_with fail
  go_ret
  exact ⟨by rw [← HQ.out]; simp, Hw1.out⟩
 | true =>
  go_wp2_with fail
  refine (HD.out (by trivial) _ Hw1.out).mono ?_; rintro e w2 ⟨rfl, hb2⟩
  have hk2 := HK1.out.below hb2 hlt1
  have d0 := hk2.c 0 _ rfl
  have d1 := hk2.c 1 _ rfl
  have d2 := hk2.c 2 _ rfl
  have d3 := hk2.c 3 _ rfl
  have d4 := hk2.c 4 _ rfl
  have d5 := hk2.c 5 _ rfl
  have Hw2 := Lib.hid (Hw1.out.trans (hb2.mono Hw1.out.size))
  have HK2 := Lib.hid hk2
  have hlt2 := hk2.lt
  clear hb2 hk2 c0 c1 c2 c3 c4 c5 Hw1 HK1 hlt1
  cases q2 with
  | false =>
   go_wp2_with fail
   go_ret
   exact ⟨by rw [← HQ.out]; simp, Hw2.out⟩
  | true =>
   go_wp2_with fail
   refine (HO.out _ Hw2.out).mono ?_; rintro e w3 ⟨rfl, hb3⟩
   have hk3 := HK2.out.below hb3 hlt2
   have e3 := hk3.c 3 _ rfl
   have Hw3 := Lib.hid (Hw2.out.trans (hb3.mono Hw2.out.size))
   have HK3 := Lib.hid hk3
   have hlt3 := hk3.lt
   clear hb3 hk3 d0 d1 d2 d3 d4 d5 Hw2 HK2 hlt2
   obtain ⟨r, hr⟩ : ∃ r, (q3 && !may) = r := ⟨_, rfl⟩
   cases r with
   | true =>
    have h3 : q3 = true := by cases q3 <;> simp_all
    have h4 : may = false := by cases may <;> simp_all
    subst h3 h4
    go_wp2_with fail
    go_ret
    exact ⟨by rw [← HQ.out]; simp, Hw3.out⟩
   | false =>
    have HR : Hid (Q = fitsK false (K == 8) l) := Lib.hid (by rw [← HQ.out, hr]; simp)
    obtain ⟨F, hF0, hFS, hFn⟩ : ∃ F : Nat → Bool, Q = F 0 ∧ (∀ k y, l[k]? = some y → F k = (fitsB y ((K == 8) && decide (0 < k)) && F (k + 1))) ∧ F n = true :=
     ⟨fun k => fitsK ((K == 8) && decide (0 < k)) (K == 8) (l.drop k), by rw [HR.out]; show _ = fitsK _ _ (l.drop 0); rw [List.drop_zero]; simp, fun k y hy => fits_drop (K == 8) l k y hy, by
      show fitsK _ _ (l.drop n) = true
      rw [List.drop_eq_nil_of_le (by rw [HLN.out]; exact Nat.le_refl _), fitsK_nil]⟩
    have HF0 := Lib.hid hF0
    have HFS := Lib.hid hFS
    have HFn := Lib.hid hFn
    have hgo : q3 = false ∨ (q3 = true ∧ may = true) := by cases q3 <;> cases may <;> simp_all
    clear hr HQ HR hF0 hFS hFn
    rcases hgo with h | ⟨h, h2⟩
    all_goals (
     subst h
     try subst h2
     go_wp2_with fail
     go_loopw [26, 5] (fun y _ wr => ∃ k : Nat, y = .int .i64 (k : Int) ∧ k ≤ n ∧ Below w3.heap.size w3 wr ∧ Hid (Q = F k)) (fun y _ _ => n - (intOf y).toNat)
     case atStart => exact ⟨0, rfl, Nat.zero_le _, Below.refl _ _, HF0⟩
     obtain ⟨k, rfl, hk, hbr, hp⟩ := hrel
     by_cases hkn : k < n
     · have hdec : decide ((k : Int) < (n : Int)) = true := by simpa using hkn
       have hkw : IntKind.i64.wrap ((k : Int) + 1) = (k : Int) + 1 := IntWalk.i64_in _ (by omega)
       obtain ⟨gb, off, y, ya, yc, za, zc, rfl, hy, hgb, -, ⟨c0, c1, c2, c3, c4, c5⟩, hkt, hnt⟩ := (HT.out wr (Hw3.out.trans (hbr.mono Hw3.out.size))).nth k hkn
       have hfd := HFS.out k y hy
       have hbk := HK3.out.below hbr hlt3
       have f0 := hbk.c 0 _ rfl
       have hbl := hbk.lt
       have hX := alloc_bel wr (.cells #[.int .i64 y.kind, .string ⟨y.name.toArray⟩, .int .i64 y.num, .slice ya y.kids.length yc, .slice za y.names.length zc, .int .i64 y.at_] 94)
       have n1 : ¬ w.heap.size = wr.heap.size := by omega
       have n2 : ¬ wr.heap.size = w.heap.size := by omega
       have HC := Lib.hid (IH.out y (List.mem_of_getElem? hy) ((K == 8) && decide (0 < k)) _ _ _ (hkt.bel hX) (hnt.below hX))
       have HX := Lib.hid hX
       unfold ndV at HC
       obtain ⟨z, hz⟩ : ∃ z, fitsB y ((K == 8) && decide (0 < k)) = z := ⟨_, rfl⟩
       rw [hz] at HC hfd
       have HF := Lib.hid (hp.out.trans hfd)
       have HP := hp
       clear hy hkt hnt hfd hz hp hX hbk
       have hkd : decide ((0 : Int) < (k : Int)) = decide (0 < k) := by simp
       by_cases h8 : K = 8
       · subst h8
         go_wp2_with fail
         refine HC.out.mono ?_; rintro e w4 ⟨rfl, hb4⟩
         have hb5 := hbr.trans ((HX.out.trans (hb4.mono HX.out.size)).mono hbr.size)
         cases z with
         | false =>
          go_wp2_with fail
          go_ret
          exact ⟨by rw [HF.out]; simp, Hw3.out.trans (hb5.mono Hw3.out.size)⟩
         | true =>
          have HF2 := Lib.hid (HF.out.trans (Bool.true_and _))
          clear HF HP
          go_wp2_with fail
          exact ⟨⟨k + 1, by simp, by omega, hb5, HF2⟩, by simp only [intOf]; omega⟩
       have b8 : (K == 8) = false := beq_eq_false_iff_ne.2 h8
       have hC := HC.out
       rw [b8, Bool.false_and] at hC
       replace HC := Lib.hid hC
       clear hC
       go_wp2_with fail
       refine HC.out.mono ?_; rintro e w4 ⟨rfl, hb4⟩
       have hb5 := hbr.trans ((HX.out.trans (hb4.mono HX.out.size)).mono hbr.size)
       cases z with
       | false =>
        go_wp2_with fail
        go_ret
        exact ⟨by rw [HF.out]; simp, Hw3.out.trans (hb5.mono Hw3.out.size)⟩
       | true =>
        have HF2 := Lib.hid (HF.out.trans (Bool.true_and _))
        clear HF HP
        go_wp2_with fail
        exact ⟨⟨k + 1, by simp, by omega, hb5, HF2⟩, by simp only [intOf]; omega⟩
     obtain rfl : k = n := by omega
     have hdec : decide ((k : Int) < (k : Int)) = false := by simp
     have HA : Hid (Q = true) := Lib.hid (hp.out.trans HFn.out)
     clear hp
     go_wp2_with fail
     go_ret
     exact ⟨by simp [HA.out], Hw3.out.trans (hbr.mono Hw3.out.size)⟩)
theorem fits_all : ∀ (m : Nat) (x : Nd), cntL x.kids < m → ∀ may w kv nv, Tree (fun _ => True) w kv x.kids → Rd (fun _ => True) strV w nv x.names → Calls Tryz.prog 45 #[ndV x kv nv, .bool may] w (Back (.bool (fitsB x may)) w)
 | 0, x, h => by omega
 | m + 1, x, h => fun may w kv nv hk hn => fits_step x (fun y hy => fits_all m y (by have := cnt_mem hy; omega)) may w kv nv hk hn
theorem fits_any (x : Nd) (may : Bool) (w : World) (kv nv : Value) (hk : Tree (fun _ => True) w kv x.kids) (hn : Rd (fun _ => True) strV w nv x.names) : Calls Tryz.prog 45 #[ndV x kv nv, .bool may] w (Back (.bool (fitsB x may)) w) :=
 fits_all (cntL x.kids + 1) x (by omega) may w kv nv hk hn
end Tr
end Go.Proofs.YtmmgfifpjifjnaaGreatDoor
namespace Go.Proofs.YtmmgfifpjifjnaaGreatDoor
open Go.RowKit
namespace Tr
open Bs Sm
theorem depth_take {l : List Nd} {k : Nat} {x : Nd} (hx : l[k]? = some x) : depthL (l.take (k + 1)) = max (depthL (l.take k)) (1 + depthL x.kids) := by
 have hk := List.getElem?_eq_some_iff.1 hx
 rw [List.take_add_one, hx, depthL_append]
 show max _ (depthL [x]) = _
 rw [depthL_cons, depthL_nil]
 omega
def DepthK (l : List Nd) : Prop := ∀ y ∈ l, ∀ v w, Tree (fun _ => True) w v y.kids → Calls Tryz.prog 122 #[v] w (Back (.int .i64 (depthL y.kids : Int)) w)
set_option maxRecDepth 100000 in
set_option maxHeartbeats 3200000 in
theorem depth_step (l : List Nd) (IH : DepthK l) (hcnt : cntL l ≤ 100000) (v : Value) (w : World) (hl : Tree (fun _ => True) w v l) :
  Calls Tryz.prog 122 #[v] w (Back (.int .i64 (depthL l : Int)) w) := by
 obtain ⟨a, c, rfl, hc, hm⟩ := hl.form
 obtain ⟨n, hn⟩ : ∃ n, l.length = n := ⟨_, rfl⟩
 have HN := Lib.hid hn
 unfold maxLen at hm
 have hn9 : n ≤ 100000 := by have := len_le_cnt l; omega
 rw [hn] at hl hc ⊢
 have hd9 := Lib.hid (Nat.le_trans (depth_le_cnt l) hcnt)
 have HL := Lib.hid hl
 have HCN := Lib.hid hcnt
 obtain ⟨D, hD⟩ : ∃ D : Nat → Nat, D = fun k => depthL (l.take k) := ⟨_, rfl⟩
 have hD0 : D 0 = 0 := by rw [hD]; show depthL (l.take 0) = 0; rw [List.take_zero, depthL_nil]
 have hDn : D n = depthL l := by rw [hD]; show depthL (l.take n) = _; rw [List.take_of_length_le (by omega)]
 have hDS : ∀ k x, l[k]? = some x → D (k + 1) = max (D k) (1 + depthL x.kids) := fun k x hx => by rw [hD]; exact depth_take hx
 have hDle : ∀ x ∈ l, depthL x.kids ≤ 100000 := fun x hx => by have := cnt_mem hx; have := depth_le_cnt x.kids; omega
 have hDk : ∀ k, D k ≤ 100001 := fun k => by
  rw [hD]
  have h1 := depth_le_cnt (l.take k)
  have h2 := cntL_append (l.take k) (l.drop k)
  rw [List.take_append_drop] at h2
  show depthL (l.take k) ≤ _
  omega
 rw [← hDn]
 have HDS := Lib.hid hDS
 have HDn := Lib.hid hDn
 have HDle := Lib.hid hDle
 have HDk := Lib.hid hDk
 replace IH := Lib.hid IH
 clear hl hn hcnt hD hDS hDn hDle hDk
 go_enter Tryz.func122, Tryz.ntmps122
 go_wp2_with fail
 go_loopw [3, 8] (fun d y wr => ∃ k : Nat, y = .int .i64 (k : Int) ∧ d = .int .i64 (D k : Int) ∧ k ≤ n ∧ Below w.heap.size w wr) (fun _ y _ => n - (intOf y).toNat)
 case atStart => exact ⟨0, rfl, by rw [hD0]; rfl, Nat.zero_le _, Below.refl _ _⟩
 obtain ⟨k, rfl, rfl, hk, hbr⟩ := hrel
 by_cases hkn : k < n
 · have hdec : decide ((k : Int) < (n : Int)) = true := by simpa using hkn
   have hkw : IntKind.i64.wrap ((k : Int) + 1) = (k : Int) + 1 := IntWalk.i64_in _ (by omega)
   obtain ⟨gb, off, x, ka, kc, na, nc, rfl, hx, hgb, -, ⟨c0, c1, c2, c3, c4, c5⟩, hkt, hnt⟩ := (HL.out.bel hbr).nth k hkn
   have hX := alloc_bel wr (.cells #[.int .i64 x.kind, .string ⟨x.name.toArray⟩, .int .i64 x.num, .slice ka x.kids.length kc, .slice na x.names.length nc, .int .i64 x.at_] 94)
   have HC := Lib.hid (IH.out x (List.mem_of_getElem? hx) _ _ (hkt.bel hX))
   have HX := Lib.hid hX
   have HS := Lib.hid (HDS.out k x hx)
   have hx9 := HDle.out x (List.mem_of_getElem? hx)
   have hk9 := HDk.out k
   obtain ⟨d, hd⟩ : ∃ d, depthL x.kids = d := ⟨_, rfl⟩
   rw [hd] at HC HS hx9
   have hdw : IntKind.i64.wrap (1 + (d : Int)) = 1 + (d : Int) := IntWalk.i64_in _ (by omega)
   clear hx hkt hnt hX hd
   go_wp2_with fail
   refine HC.out.mono ?_; rintro e w1 ⟨rfl, hb1⟩
   have hb2 := hbr.trans ((HX.out.trans (hb1.mono HX.out.size)).mono hbr.size)
   go_wp2_with fail
   exact ⟨⟨k + 1, by simp, by rw [HS.out]; simp; omega, by omega, hb2⟩, by simp only [intOf]; omega⟩
 obtain rfl : k = n := by omega
 have hdec : decide ((k : Int) < (k : Int)) = false := by simp
 go_wp2_with fail
 go_ret
 exact ⟨by simp, hbr⟩
theorem depth_all : ∀ (m : Nat) (l : List Nd), cntL l < m → cntL l ≤ 100000 → ∀ v w, Tree (fun _ => True) w v l → Calls Tryz.prog 122 #[v] w (Back (.int .i64 (depthL l : Int)) w)
 | 0, l, h => by omega
 | m + 1, l, h => fun h2 v w hl => depth_step l (fun y hy => depth_all m y.kids (by have := cnt_mem hy; omega) (by have := cnt_mem hy; omega)) h2 v w hl
theorem depth_any (l : List Nd) (hcnt : cntL l ≤ 100000) (v : Value) (w : World) (hl : Tree (fun _ => True) w v l) : Calls Tryz.prog 122 #[v] w (Back (.int .i64 (depthL l : Int)) w) :=
 depth_all (cntL l + 1) l (by omega) hcnt v w hl
end Tr
end Go.Proofs.YtmmgfifpjifjnaaGreatDoor
namespace Go.Proofs.YtmmgfifpjifjnaaGreatDoor
open Go.RowKit
namespace Tr
open Bs Sm
structure But (X : Nat → Prop) (w w' : World) : Prop where
 os : w'.os = w.os
 tape : w'.tape = w.tape
 output : w'.output = w.output
 size : w.heap.size ≤ w'.heap.size
 block : ∀ b, b < w.heap.size → ¬ X b → w'.heap[b]? = w.heap[b]?
section
variable {X : Nat → Prop} {w w' w'' : World}
theorem But.refl (X : Nat → Prop) (w : World) : But X w w := ⟨rfl, rfl, rfl, Nat.le_refl _, fun _ _ _ => rfl⟩
theorem But.trans (h : But X w w') (k : But X w' w'') : But X w w'' :=
 ⟨k.os.trans h.os, k.tape.trans h.tape, k.output.trans h.output, Nat.le_trans h.size k.size, fun b hb hx => (k.block b (Nat.lt_of_lt_of_le hb h.size) hx).trans (h.block b hb hx)⟩
theorem But.of (h : Below w.heap.size w w') : But X w w' := ⟨h.os, h.tape, h.output, h.size, fun b hb _ => h.block b hb⟩
theorem But.bel {B : Nat} (h : But X w w') (hX : ∀ b, X b → B ≤ b) (hB : B ≤ w.heap.size) : Below B w w' :=
 ⟨h.os, h.tape, h.output, h.size, fun b hb => h.block b (by omega) (fun hx => by have := hX b hx; omega)⟩
theorem But.kp (h : But X w w') : Kp (fun b => ¬ X b) w w' := ⟨h.size, fun b hx hb => h.block b hb hx⟩
theorem But.set_ (h : But X w w') {k : Nat} (hk : X k) (i : Nat) (u : Value) : But X w (w'.setCell ⟨k, i, none⟩ u) :=
 h.trans ⟨rfl, rfl, rfl, by simp [World.setCell], fun j _ hb => Below.heap_setCell w' ⟨k, i, none⟩ u j (fun e => hb (by have : j = k := e; rw [this]; exact hk))⟩
theorem But.blk {T k : Nat} {cs : Array Value} (h : But X w w') (hk : Blk T k cs w) (hx : ¬ X k) : Blk T k cs w' := (h.block k hk.lt hx).trans hk
theorem But.alloc (h : But X w w') (o : Obj) : But X w (w'.alloc o) := h.trans (But.of (alloc_bel w' o))
end
def goW {σ : Type} (stp : Nd → σ → Bool × σ) : List Nd → σ → Bool × σ
 | [], s => (true, s)
 | x :: r, s => if (stp x s).1 then goW stp r (stp x s).2 else (false, (stp x s).2)
theorem goW_append {σ : Type} (stp : Nd → σ → Bool × σ) : ∀ (a b : List Nd) (s : σ), goW stp (a ++ b) s = if (goW stp a s).1 then goW stp b (goW stp a s).2 else (false, (goW stp a s).2)
 | [], b, s => by simp [goW]
 | x :: a, b, s => by
  rw [List.cons_append, goW, goW]
  split
  · exact goW_append stp a b _
  simp
structure See {σ : Type} (X : Nat → Prop) (kf : Nat) (cap : Array Value) (Inv : σ → World → Prop) (stp : Nd → σ → Bool × σ) (B : Nat) (l : List Nd) : Prop where
 ent : Ent kf
 low : ∀ b, X b → b < B
 keep : ∀ s w w', Inv s w → Below w.heap.size w w' → Inv s w'
 call : ∀ x, x ∈ allL l → ∀ ka kc na nc s w, Inv s w → B ≤ w.heap.size → Tree (fun b => ¬ X b) w (.slice ka x.kids.length kc) x.kids → Rd (fun b => ¬ X b) strV w (.slice na x.names.length nc) x.names →
  Calls Tryz.prog kf (#[ndV x (.slice ka x.kids.length kc) (.slice na x.names.length nc)] ++ cap) w (fun e w' => e = .returned (.bool (stp x s).1) ∧ Inv (stp x s).2 w' ∧ But X w w')
def Walks {σ : Type} (X : Nat → Prop) (kf : Nat) (cap : Array Value) (Inv : σ → World → Prop) (stp : Nd → σ → Bool × σ) (B : Nat) (l : List Nd) : Prop :=
 ∀ v s w, Inv s w → B ≤ w.heap.size → Tree (fun b => ¬ X b) w v l → Calls Tryz.prog 121 #[v, .func (.func kf) #[] cap] w
  (fun e w' => e = .returned (.bool (goW stp (allL l) s).1) ∧ Inv (goW stp (allL l) s).2 w' ∧ But X w w')
set_option maxRecDepth 100000 in
set_option maxHeartbeats 3200000 in
theorem walk_step {σ : Type} (X : Nat → Prop) (kf : Nat) (cap : Array Value) (Inv : σ → World → Prop) (stp : Nd → σ → Bool × σ) (B : Nat) (l : List Nd) (hS : See X kf cap Inv stp B l)
  (IH : ∀ y, y ∈ l → Walks X kf cap Inv stp B y.kids) : Walks X kf cap Inv stp B l := by
 intro v s0 w hI hB hl
 obtain ⟨hen, hlow, hkeep, hcall⟩ := hS
 obtain ⟨a, c, rfl, hc, hm⟩ := hl.form
 obtain ⟨n, hn⟩ : ∃ n, l.length = n := ⟨_, rfl⟩
 have HN := Lib.hid hn
 unfold maxLen at hm
 rw [hn] at hl hc ⊢
 have HL := Lib.hid hl
 have HK := Lib.hid hkeep
 have HC := Lib.hid hcall
 have HI := Lib.hid hI
 replace IH := Lib.hid IH
 obtain ⟨R, hR⟩ : ∃ R, goW stp (allL l) s0 = R := ⟨_, rfl⟩
 rw [hR]
 have HR := Lib.hid hR
 have HLow := Lib.hid hlow
 have HB := Lib.hid hB
 unfold Ent at hen
 clear hl hn hkeep hcall hI hR hlow hB
 go_enter Tryz.func121, Tryz.ntmps121
 go_wp2_with fail
 go_loopw [9] (fun y wr => ∃ (k : Nat) (s : σ), y = .int .i64 (k : Int) ∧ k ≤ n ∧ Hid (Inv s wr) ∧ Hid (But X w wr) ∧ Hid (R = goW stp (allL (l.drop k)) s)) (fun y _ => n - (intOf y).toNat)
 case atStart => exact ⟨0, s0, rfl, Nat.zero_le _, HI, Lib.hid (But.refl _ _), Lib.hid (by rw [List.drop_zero, HR.out])⟩
 obtain ⟨k, s, rfl, hk, hinv, hbr, hgo⟩ := hrel
 by_cases hkn : k < n
 · have hdec : decide ((k : Int) < (n : Int)) = true := by simpa using hkn
   have hkw : IntKind.i64.wrap ((k : Int) + 1) = (k : Int) + 1 := IntWalk.i64_in _ (by omega)
   obtain ⟨gb, off, x, ka, kc, na, nc, rfl, hx, hgb, -, ⟨c0, c1, c2, c3, c4, c5⟩, hkt, hnt⟩ := (HL.out.kp hbr.out.kp).nth k hkn
   have hX := alloc_bel wr (.cells #[.int .i64 x.kind, .string ⟨x.name.toArray⟩, .int .i64 x.num, .slice ka x.kids.length kc, .slice na x.names.length nc, .int .i64 x.at_] 94)
   have hBk := Blk.made (T := 94) (cs := #[.int .i64 x.kind, .string ⟨x.name.toArray⟩, .int .i64 x.num, .slice ka x.kids.length kc, .slice na x.names.length nc, .int .i64 x.at_]) wr
   have hBs : B ≤ wr.heap.size := Nat.le_trans HB.out hbr.out.size
   have hxl := List.mem_of_getElem? hx
   have hCc := HC.out x (mem_all hxl) ka kc na nc s _ (HK.out s _ _ hinv.out hX) (Nat.le_trans hBs hX.size) (hkt.bel hX) (hnt.below hX)
   have hdr := drop_at hx
   have hgo2 : R = goW stp (x :: (allL x.kids ++ allL (l.drop (k + 1)))) s := by rw [hgo.out, hdr, allL_cons]
   rw [goW, goW_append] at hgo2
   obtain ⟨p, hp⟩ : ∃ p, stp x s = p := ⟨_, rfl⟩
   rw [hp] at hCc hgo2
   obtain ⟨b, s1⟩ := p
   dsimp only at hCc hgo2
   unfold ndV at hCc
   have HCc := Lib.hid hCc
   have HG := Lib.hid hgo2
   have HBk := Lib.hid hBk
   have HX := Lib.hid hX
   have HKT := Lib.hid hkt
   have HXL := Lib.hid hxl
   have hnX : ¬ X wr.heap.size := fun h => by have := HLow.out _ h; omega
   have HNX := Lib.hid hnX
   clear hx hkt hnt hdr hgo2 hp hCc hBk hX hgo hxl hnX
   go_wp2_with fail
   refine HCc.out.mono ?_; rintro e w1 ⟨rfl, hinv1, hbt1⟩
   have hbt2 := ((But.of HX.out).trans hbt1 : But X wr w1)
   cases b with
   | false =>
    have HR2 := HG.out
    simp only [Bool.false_eq_true, if_false] at HR2
    have HR3 := Lib.hid HR2
    have HI1 := Lib.hid hinv1
    have HT1 := Lib.hid (hbr.out.trans hbt2)
    clear HR2 hinv1 hbt1 hbt2
    go_wp2_with fail
    go_ret
    exact ⟨by rw [HR3.out]; rfl, by rw [HR3.out]; exact HI1.out, HT1.out⟩
   | true =>
    have HR2 := HG.out
    simp only [if_true] at HR2
    have hk1 := hbt1.blk HBk.out HNX.out
    have e3 := hk1.c 3 _ rfl
    have hIH := IH.out x HXL.out (.slice ka x.kids.length kc) s1 w1 hinv1 (Nat.le_trans hBs hbt2.size) (HKT.out.kp hbt2.kp)
    obtain ⟨p, hp⟩ : ∃ p, goW stp (allL x.kids) s1 = p := ⟨_, rfl⟩
    rw [hp] at hIH HR2
    obtain ⟨b2, s2⟩ := p
    dsimp only at hIH HR2
    have HIH := Lib.hid hIH
    have HR3 := Lib.hid HR2
    have HT1 := Lib.hid (hbr.out.trans hbt2)
    clear hk1 hIH hp HR2 hinv1 hbt1 hbt2
    go_wp2_with fail
    refine HIH.out.mono ?_; rintro e w2 ⟨rfl, hinv2, hbt3⟩
    have HI2 := Lib.hid hinv2
    have HT2 := Lib.hid (HT1.out.trans hbt3)
    clear hinv2 hbt3
    cases b2 with
    | false =>
     have HR4 := HR3.out
     simp only [Bool.false_eq_true, if_false] at HR4
     have HR5 := Lib.hid HR4
     clear HR4 HR3
     go_wp2_with fail
     go_ret
     exact ⟨by rw [HR5.out]; rfl, by rw [HR5.out]; exact HI2.out, HT2.out⟩
    | true =>
     have HR4 := HR3.out
     simp only [if_true] at HR4
     have HR5 := Lib.hid HR4
     clear HR4 HR3
     go_wp2_with fail
     exact ⟨⟨k + 1, s2, by simp, by omega, HI2, HT2, HR5⟩, by simp only [intOf]; omega⟩
 obtain rfl : k = n := by omega
 have hdec : decide ((k : Int) < (k : Int)) = false := by simp
 have HG : Hid (R = (true, s)) := Lib.hid (by rw [hgo.out, List.drop_eq_nil_of_le (by rw [HN.out]; exact Nat.le_refl _), allL_nil]; rfl)
 clear hgo
 go_wp2_with fail
 go_ret
 exact ⟨by rw [HG.out]; rfl, by rw [HG.out]; exact hinv.out, hbr.out⟩
theorem walk_all {σ : Type} (X : Nat → Prop) (kf : Nat) (cap : Array Value) (Inv : σ → World → Prop) (stp : Nd → σ → Bool × σ) (B : Nat) :
  ∀ (m : Nat) (l : List Nd), cntL l < m → See X kf cap Inv stp B l → Walks X kf cap Inv stp B l
 | 0, l, h, _ => by omega
 | m + 1, l, h, hS => walk_step X kf cap Inv stp B l hS (fun y hy => walk_all X kf cap Inv stp B m y.kids (by have := cnt_mem hy; omega)
   ⟨hS.ent, hS.low, hS.keep, fun x hx => hS.call x (all_kids hy hx)⟩)
theorem walk_any {σ : Type} {X : Nat → Prop} {kf : Nat} {cap : Array Value} {Inv : σ → World → Prop} {stp : Nd → σ → Bool × σ} {B : Nat} {l : List Nd} (hS : See X kf cap Inv stp B l) : Walks X kf cap Inv stp B l :=
 walk_all X kf cap Inv stp B (cntL l + 1) l (by omega) hS
end Tr
end Go.Proofs.YtmmgfifpjifjnaaGreatDoor
