/- The law's Own and Cut (printed by gen_trcut.py, hdx.py). -/
import Derived.Test.YtfbhokdcnjekiaaGreatDoorTrNds
import Derived.Test.YtfbhokdcnjekiaaGreatDoorTrWa
set_option linter.unusedVariables false
namespace Go.Proofs.YtfbhokdcnjekiaaGreatDoor
open Go.RowKit
namespace Tr
open Bs Sm
set_option maxRecDepth 100000 in
set_option maxHeartbeats 6400000 in
theorem own_any (m : Mt) (hmild : Mild m.body) (hpl : m.params.length ≤ 15) (htl : m.temps.length ≤ 15) (pv tv bv : Value) (w : World) (hm : MtAt (fun _ => True) w m pv tv bv) :
  Calls Tryz.prog 9 #[mtV m pv tv bv] w (fun e w' => Below w.heap.size w w' ∧ ∃ pv' tv' bv', e = .returned (mtV m pv' tv' bv') ∧ Rd (fun b => w.heap.size ≤ b) strV w' pv' m.params ∧ Rd (fun b => w.heap.size ≤ b) strV w' tv' m.temps ∧ OwnT 50 w.heap.size (fun b => w.heap.size ≤ b) w' bv' m.body) := by
 obtain ⟨iI, hiI, hI0, hI1, hI2⟩ := info_parts (show (Tryz.prog.info? 9).map (fun i => (i.zero, i.size, i.bytes)) = some (some (.string ⟨#[]⟩), 1, 16) by kernel_rfl)
 have tI : Tryz.prog.underlying 22 = some (.slice 9) := by kernel_rfl
 obtain ⟨pa, pc, rfl, -, -⟩ := hm.params.form
 obtain ⟨ta, tc, rfl, -, -⟩ := hm.temps.form
 obtain ⟨ba, bc, rfl, -, -⟩ := hm.body.form
 have HND := Lib.hid (nodes_any m.body hmild)
 obtain ⟨pl, hp⟩ : ∃ q, m.params.length = q := ⟨_, rfl⟩
 obtain ⟨tl, ht⟩ : ∃ q, m.temps.length = q := ⟨_, rfl⟩
 obtain ⟨bl, hbl⟩ : ∃ q, m.body.length = q := ⟨_, rfl⟩
 obtain ⟨hmp, hmt, hmb⟩ := hm
 have HP := Lib.hid hp
 have HT := Lib.hid ht
 unfold mtV
 rw [hp] at hmp hpl ⊢
 rw [ht] at hmt htl ⊢
 rw [hbl] at hmb ⊢
 have hX1 := alloc_bel w (.cells #[.string ⟨m.name.toArray⟩, .slice pa pl pc, .slice ta tl tc, .int .i64 m.prim, .slice ba bl bc, .int .i64 m.at_] 25)
 have hX2 := alloc_bel (w.alloc (.cells #[.string ⟨m.name.toArray⟩, .slice pa pl pc, .slice ta tl tc, .int .i64 m.prim, .slice ba bl bc, .int .i64 m.at_] 25)) (.cells #[.string ⟨#[]⟩, .slice none 0 0, .slice none 0 0, .int .i64 0, .slice none 0 0, .int .i64 0] 30)
 have hX := hX1.trans (hX2.mono hX1.size)
 have hk1 := (Blk.made (T := 25) (cs := #[.string ⟨m.name.toArray⟩, .slice pa pl pc, .slice ta tl tc, .int .i64 m.prim, .slice ba bl bc, .int .i64 m.at_]) w).alloc (.cells #[.string ⟨#[]⟩, .slice none 0 0, .slice none 0 0, .int .i64 0, .slice none 0 0, .int .i64 0] 30)
 have hk2 := Blk.made (T := 30) (cs := #[.string ⟨#[]⟩, .slice none 0 0, .slice none 0 0, .int .i64 0, .slice none 0 0, .int .i64 0]) (w.alloc (.cells #[.string ⟨m.name.toArray⟩, .slice pa pl pc, .slice ta tl tc, .int .i64 m.prim, .slice ba bl bc, .int .i64 m.at_] 25))
 have hz1 : (w.alloc (.cells #[.string ⟨m.name.toArray⟩, .slice pa pl pc, .slice ta tl tc, .int .i64 m.prim, .slice ba bl bc, .int .i64 m.at_] 25)).heap.size = w.heap.size + 1 := by simp
 have hz2 : ((w.alloc (.cells #[.string ⟨m.name.toArray⟩, .slice pa pl pc, .slice ta tl tc, .int .i64 m.prim, .slice ba bl bc, .int .i64 m.at_] 25)).alloc (.cells #[.string ⟨#[]⟩, .slice none 0 0, .slice none 0 0, .int .i64 0, .slice none 0 0, .int .i64 0] 30)).heap.size = w.heap.size + 2 := by simp
 rw [hz1] at hk2
 have HMP := Lib.hid (hmp.below hX)
 have HMT := Lib.hid (hmt.below hX)
 have HMB := Lib.hid (hmb.bel hX)
 have HX := Lib.hid hX
 have HK1 := Lib.hid hk1
 have HK2 := Lib.hid hk2
 have HZ2 := Lib.hid hz2
 clear hp ht hbl hmp hmt hmb hX1 hX2 hX hk1 hk2 hz1 hz2 hmild
 go_enter Tryz.func9, Tryz.ntmps9
 go_upto_region 1 with fail
 have hX5 := HX.out
 have hk5 := HK1.out
 have hr5 := HK2.out
 have hz5 := HZ2.out
 have hp5 := HMP.out
 have ht5 := HMT.out
 have hb5 := HMB.out
 clear HX HK1 HK2 HZ2 HMP HMT HMB
 obtain ⟨W5, hW5⟩ : ∃ W, (w.alloc (.cells #[.string ⟨m.name.toArray⟩, .slice pa pl pc, .slice ta tl tc, .int .i64 m.prim, .slice ba bl bc, .int .i64 m.at_] 25)).alloc (.cells #[.string ⟨#[]⟩, .slice none 0 0, .slice none 0 0, .int .i64 0, .slice none 0 0, .int .i64 0] 30) = W := ⟨_, rfl⟩
 rw [hW5] at hX5 hk5 hr5 hz5 hp5 ht5 hb5 ⊢
 obtain ⟨KM, hKM⟩ : ∃ b, w.heap.size = b := ⟨_, rfl⟩
 rw [hKM] at hk5 hr5 hz5 ⊢
 have HX5 := Lib.hid hX5
 have HK5 := Lib.hid hk5
 have HR5 := Lib.hid hr5
 have HMP := Lib.hid hp5
 have HMT := Lib.hid ht5
 have HMB := Lib.hid hb5
 have hkl := hk5.lt
 have hrl := hr5.lt
 have hS : ∀ v, Below W5.heap.size W5 v → (v.cell? ⟨KM, 0, none⟩ = some (.string ⟨m.name.toArray⟩) ∧ v.cell? ⟨KM, 1, none⟩ = some (.slice pa pl pc) ∧ v.cell? ⟨KM, 2, none⟩ = some (.slice ta tl tc) ∧ v.cell? ⟨KM, 3, none⟩ = some (.int .i64 m.prim) ∧ v.cell? ⟨KM, 4, none⟩ = some (.slice ba bl bc) ∧ v.cell? ⟨KM, 5, none⟩ = some (.int .i64 m.at_)) := fun v hv =>
  have h := HK5.out.below hv hkl
  ⟨h.c 0 _ rfl, h.c 1 _ rfl, h.c 2 _ rfl, h.c 3 _ rfl, h.c 4 _ rfl, h.c 5 _ rfl⟩
 clear hW5 hX5 hk5 hr5 hp5 ht5 hb5
 refine wp_region_noPanic ?_
 refine Hd.start (fun v => v.cell? ⟨KM, 0, none⟩ = some (.string ⟨m.name.toArray⟩) ∧ v.cell? ⟨KM, 1, none⟩ = some (.slice pa pl pc) ∧ v.cell? ⟨KM, 2, none⟩ = some (.slice ta tl tc) ∧ v.cell? ⟨KM, 3, none⟩ = some (.int .i64 m.prim) ∧ v.cell? ⟨KM, 4, none⟩ = some (.slice ba bl bc) ∧ v.cell? ⟨KM, 5, none⟩ = some (.int .i64 m.at_)) (by kernel_rfl) (hS _ (Below.refl _ W5).drew) (fun hH0 => ?_)
 refine Hd.take 0 1 (oi := ?_) (v := ?_) ?_ (by kernel_rfl) (fun _ _ _ h => h) hH0 ?_ ?_ ?_
 rotate_left 2
 · simp only [Hd.ga, Hd.gz]
   exact rfl
 · rfl
 · intro w hSw
   (try dsimp only at hSw)
   go_simp
   try with_reducible rfl
 try simp only [Act.put, Hd.sa, Hd.sz, Hd.ss]
 refine Hd.take 1 17 (oi := ?_) (v := ?_) ?_ (by kernel_rfl) (fun _ _ _ h => h) hH0 ?_ ?_ ?_
 rotate_left 2
 · simp only [Hd.ga, Hd.gs, Hd.gz]
   exact rfl
 · rfl
 · intro w hSw
   (try dsimp only at hSw)
   go_simp
   try with_reducible rfl
 try simp only [Act.put, Hd.sa, Hd.sz, Hd.ss]
 refine Hd.take 3 4 (oi := ?_) (v := ?_) ?_ (by kernel_rfl) (fun _ _ _ h => h) hH0 ?_ ?_ ?_
 rotate_left 2
 · simp only [Hd.ga, Hd.gs, Hd.gz]
   exact rfl
 · rfl
 · intro w hSw
   (try dsimp only at hSw)
   go_simp
   try with_reducible rfl
 try simp only [Act.put, Hd.sa, Hd.sz, Hd.ss]
 refine Hd.take 4 5 (oi := ?_) (v := ?_) ?_ (by kernel_rfl) (fun _ _ _ h => h) hH0 ?_ ?_ ?_
 rotate_left 2
 · simp only [Hd.ga, Hd.gs, Hd.gz]
   exact rfl
 · rfl
 · intro w hSw
   (try dsimp only at hSw)
   go_simp
   try with_reducible rfl
 try simp only [Act.put, Hd.sa, Hd.sz, Hd.ss]
 refine Hd.take 7 8 (oi := ?_) (v := ?_) ?_ (by kernel_rfl) (fun _ _ _ h => h) hH0 ?_ ?_ ?_
 rotate_left 2
 · simp only [Hd.ga, Hd.gs, Hd.gz]
   exact rfl
 · rfl
 · intro w hSw
   (try dsimp only at hSw)
   go_simp
   try with_reducible rfl
 try simp only [Act.put, Hd.sa, Hd.sz, Hd.ss]
 refine Hd.take 8 9 (oi := ?_) (v := ?_) ?_ (by kernel_rfl) (fun _ _ _ h => h) hH0 ?_ ?_ ?_
 rotate_left 2
 · simp only [Hd.ga, Hd.gs, Hd.gz]
   exact rfl
 · rfl
 · intro w hSw
   (try dsimp only at hSw)
   go_simp
   try with_reducible rfl
 try simp only [Act.put, Hd.sa, Hd.sz, Hd.ss]
 refine Hd.take 10 11 (oi := ?_) (v := ?_) ?_ (by kernel_rfl) (fun _ _ _ h => h) hH0 ?_ ?_ ?_
 rotate_left 2
 · simp only [Hd.ga, Hd.gs, Hd.gz]
   exact rfl
 · rfl
 · intro w hSw
   (try dsimp only at hSw)
   go_simp
   try with_reducible rfl
 try simp only [Act.put, Hd.sa, Hd.sz, Hd.ss]
 refine Hd.take 11 17 (oi := ?_) (v := ?_) ?_ (by kernel_rfl) (fun _ _ _ h => h) hH0 ?_ ?_ ?_
 rotate_left 2
 · simp only [Hd.ga, Hd.gs, Hd.gz]
   exact rfl
 · rfl
 · intro w hSw
   (try dsimp only at hSw)
   go_simp
   try with_reducible rfl
 try simp only [Act.put, Hd.sa, Hd.sz, Hd.ss]
 refine Hd.take 12 13 (oi := ?_) (v := ?_) ?_ (by kernel_rfl) (fun _ _ _ h => h) hH0 ?_ ?_ ?_
 rotate_left 2
 · simp only [Hd.ga, Hd.gs, Hd.gz]
   exact rfl
 · rfl
 · intro w hSw
   (try dsimp only at hSw)
   go_simp
   try with_reducible rfl
 try simp only [Act.put, Hd.sa, Hd.sz, Hd.ss]
 refine Hd.take 13 14 (oi := ?_) (v := ?_) ?_ (by kernel_rfl) (fun _ _ _ h => h) hH0 ?_ ?_ ?_
 rotate_left 2
 · simp only [Hd.ga, Hd.gs, Hd.gz]
   exact rfl
 · rfl
 · intro w hSw
   (try dsimp only at hSw)
   go_simp
   try with_reducible rfl
 try simp only [Act.put, Hd.sa, Hd.sz, Hd.ss]
 refine Hd.take 15 16 (oi := ?_) (v := ?_) ?_ (by kernel_rfl) (fun _ _ _ h => h) hH0 ?_ ?_ ?_
 rotate_left 2
 · simp only [Hd.ga, Hd.gs, Hd.gz]
   exact rfl
 · rfl
 · intro w hSw
   (try dsimp only at hSw)
   go_simp
   try with_reducible rfl
 try simp only [Act.put, Hd.sa, Hd.sz, Hd.ss]
 refine Hd.take 16 17 (oi := ?_) (v := ?_) ?_ (by kernel_rfl) (fun _ _ _ h => h) hH0 ?_ ?_ ?_
 rotate_left 2
 · simp only [Hd.ga, Hd.gs, Hd.gz]
   exact rfl
 · rfl
 · intro w hSw
   (try dsimp only at hSw)
   go_simp
   try with_reducible rfl
 try simp only [Act.put, Hd.sa, Hd.sz, Hd.ss]
 refine Hd.two 2 6 (o := ?_) (p := ?_) ?_ ?_ (by kernel_rfl) (fun K hK => ?_) (fun K hK => ?_)
 rotate_left 2
 · simp only [Hd.ga, Hd.gs, Hd.gz]
   exact rfl
 · simp only [Hd.ga, Hd.gs, Hd.gz]
   exact rfl
 · skip
   go_simp
   have hX6 : Below W5.heap.size W5 (W5.drew.alloc (.cells #[] 9)) := (Below.refl _ W5).drew.alloc (Nat.le_refl _) _
   have HE2 := Lib.hid (World.ownsRow_made (e := 9) (size := 1) W5.drew #[] 0 (Nat.le_refl _) (by unfold maxLen; omega) rfl)
   have HB6 := Lib.hid hX6
   refine hK.out _ _ (hS _ hX6) (fun hH1 => ?_)
   clear hK K hX6
   try simp only [Act.put, Hd.sa, Hd.sz, Hd.ss]
   refine Hd.two 5 6 (o := ?_) (p := ?_) ?_ ?_ (by kernel_rfl) (fun K hK => ?_) (fun K hK => ?_)
   rotate_left 2
   · simp only [Hd.ga, Hd.gs, Hd.gz]
     exact rfl
   · simp only [Hd.ga, Hd.gs, Hd.gz]
     exact rfl
   · skip
     refine step_rd (S := fun _ => True) (f := strV) (fun _ => rfl) rfl (.tmp 5) (.tmp 7) 22 9 rfl tI iI (.string ⟨#[]⟩) 16 hiI hI0 hI1 hI2 rfl (by exact HE2.out) (by simp [Act.eval]) (by simp [Act.eval]) (HMP.out.below HB6.out) (by unfold maxLen; have := HP.out; omega) (by have := HP.out; omega) (by exact HB6.out.size) ?_
     intro v5 w6a hown5 hg5 hat5
     have hb5 := HB6.out.grown hg5 HB6.out.size (fun k hk => (HE2.out.lt k hk).1)
     have HB6a := Lib.hid hb5
     have HP5 := Lib.hid (show w6a.ownsRow W5.heap.size 9 1 v5 m.params.length (m.params.map strV) by simpa using hown5)
     clear hown5 hg5 hb5 hat5
     refine hK.out _ _ (hS _ HB6a.out) (fun hH2 => ?_)
     clear hK K
     try simp only [Act.put, Hd.sa, Hd.sz, Hd.ss]
     have hX7 := alloc_bel w6a (.cells #[] 9)
     have HB7 := Lib.hid (HB6a.out.trans (hX7.mono HB6a.out.size))
     have HE7 := Lib.hid (own_mono (World.ownsRow_made (e := 9) (size := 1) w6a #[] 0 (Nat.le_refl _) (by unfold maxLen; omega) rfl) HB6a.out.size)
     have HP7 := Lib.hid (own_below HP5.out hX7)
     have HNE : Hid (v5.ownBlock = none ∨ v5.ownBlock ≠ some w6a.heap.size) := Lib.hid (.inr (fun h => by have := (HP5.out.lt _ h).2; omega))
     clear hX7
     refine Hd.one 6 6 (o := ?_) ?_ (by kernel_rfl) (fun K hK => ?_)
     rotate_left 1
     · simp only [Hd.ga, Hd.gs, Hd.gz]
       exact rfl
     go_simp
     refine hK.out _ _ (hS _ HB7.out) (fun hH3 => ?_)
     clear hK K
     try simp only [Act.put, Hd.sa, Hd.sz, Hd.ss]
     obtain ⟨po, pn, pc', rfl⟩ : ∃ a b c, v5 = .slice a b c := by obtain ⟨fo, fc, h, -⟩ := own_slice HP7.out; exact ⟨_, _, _, h⟩
     refine Hd.one 9 9 (o := ?_) ?_ (by kernel_rfl) (fun K hK => ?_)
     rotate_left 1
     · simp only [Hd.ga, Hd.gs, Hd.gz]
       exact rfl
     refine step_rd (S := fun _ => True) (f := strV) (fun _ => rfl) rfl (.tmp 9) (.tmp 11) 22 9 rfl tI iI (.string ⟨#[]⟩) 16 hiI hI0 hI1 hI2 rfl (by exact HE7.out) (by simp [Act.eval]) (by simp [Act.eval]) (HMT.out.below HB7.out) (by unfold maxLen; have := HT.out; omega) (by have := HT.out; omega) (by exact HB7.out.size) ?_
     intro v9 w9 hown9 hg9 _
     have HB9 := Lib.hid (HB7.out.grown hg9 HB7.out.size (fun k hk => (HE7.out.lt k hk).1))
     have hT9 : w9.ownsRow W5.heap.size 9 1 v9 m.temps.length (m.temps.map strV) := by simpa using hown9
     have hP9 := World.ownsRow.kept HP7.out hg9 HNE.out
     obtain ⟨uo, un, uc, rfl⟩ : ∃ a b c, v9 = .slice a b c := by obtain ⟨fo, fc, h, -⟩ := own_slice hT9; exact ⟨_, _, _, h⟩
     have HT9 := Lib.hid (Rd.of hT9)
     have HP9 := Lib.hid (Rd.of hP9)
     clear hown9 hg9 hT9 hP9
     refine hK.out _ _ (hS _ HB9.out) (fun hH8 => ?_)
     clear hK K
     try simp only [Act.put, Hd.sa, Hd.sz, Hd.ss]
     refine Hd.one 14 14 (o := ?_) ?_ (by kernel_rfl) (fun K hK => ?_)
     rotate_left 1
     · simp only [Hd.ga, Hd.gs, Hd.gz]
       exact rfl
     go_simp
     refine (HND.out _ _ (HMB.out.bel HB9.out)).mono ?_; rintro e w14 ⟨hb14, v14, rfl, hO14⟩
     obtain ⟨fo, fl, fc, rfl⟩ : ∃ a b c, v14 = .slice a b c := by obtain ⟨vl6, -, ho6, -⟩ := hO14; obtain ⟨ao, co, h, -⟩ := own_slice ho6; exact ⟨_, _, _, h⟩
     have hb14' := HB9.out.trans (hb14.mono HB9.out.size)
     have HT14 := Lib.hid (HT9.out.below hb14)
     have HP14 := Lib.hid (HP9.out.below hb14)
     have HO14 := Lib.hid hO14
     have HS14 := Lib.hid (hb14.size)
     have HB14 := Lib.hid hb14'
     have HR14 := Lib.hid (HR5.out.below hb14' hrl)
     clear hb14 hO14 hb14'
     go_wp2_with fail
     refine hK.out _ _ (hS _ HB14.out) (fun hH9 => ?_)
     clear hK K
     try simp only [Act.put, Hd.sa, Hd.sz, Hd.ss]
     refine Hd.take 17 18 (oi := ?_) (v := ?_) ?_ (by kernel_rfl) (fun _ _ _ h => h) hH9 ?_ ?_ ?_
     rotate_left 2
     · simp only [Hd.ga, Hd.gs, Hd.gz]
       exact rfl
     · rfl
     · intro w hSw
       (try dsimp only at hSw)
       go_simp
       try with_reducible rfl
     try simp only [Act.put, Hd.sa, Hd.sz, Hd.ss]
     have q0 := HR14.out.c 0 _ rfl
     have q1 := HR14.out.c 1 _ rfl
     have q2 := HR14.out.c 2 _ rfl
     have q3 := HR14.out.c 3 _ rfl
     have q4 := HR14.out.c 4 _ rfl
     have q5 := HR14.out.c 5 _ rfl
     have qf := HR14.out.fz
     have ql := HR14.out.lt
     refine Hd.last 18 (o := ?_) ?_ (by kernel_rfl) (by kernel_rfl) (by kernel_rfl) (fun K hK => ?_)
     rotate_left 1
     · simp only [Hd.ga, Hd.gs, Hd.gz]
       exact rfl
     go_simp
     refine hK.out _ _ ?_
     clear hK K
     try simp only [Act.put, Hd.sa, Hd.sz, Hd.ss]
     simp only [NoPanic]
     obtain ⟨W18, hW18⟩ : ∃ W, (((((w14.setCell ⟨KM + 1, 0, none⟩ (.string ⟨m.name.toArray⟩)).setCell ⟨KM + 1, 1, none⟩ (.slice po pn pc')).setCell ⟨KM + 1, 2, none⟩ (.slice uo un uc)).setCell ⟨KM + 1, 3, none⟩ (.int .i64 m.prim)).setCell ⟨KM + 1, 4, none⟩ (.slice fo fl fc)).setCell ⟨KM + 1, 5, none⟩ (.int .i64 m.at_) = W := ⟨_, rfl⟩
     have hR18 : Blk 30 (KM + 1) #[.string ⟨m.name.toArray⟩, .slice po pn pc', .slice uo un uc, .int .i64 m.prim, .slice fo fl fc, .int .i64 m.at_] W18 := by
      rw [← hW18]
      exact (((((HR14.out.set_ 0 _ _ rfl).set_ 1 _ _ rfl).set_ 2 _ _ rfl).set_ 3 _ _ rfl).set_ 4 _ _ rfl).set_ 5 _ _ rfl
     have hkp : ∀ b, b ≠ KM + 1 → W18.heap[b]? = w14.heap[b]? := fun b hb => by
      rw [← hW18]
      exact (Below.heap_setCell _ _ _ b hb).trans ((Below.heap_setCell _ _ _ b hb).trans ((Below.heap_setCell _ _ _ b hb).trans ((Below.heap_setCell _ _ _ b hb).trans ((Below.heap_setCell _ _ _ b hb).trans (Below.heap_setCell _ _ _ b hb)))))
     have hsz18 : W18.heap.size = w14.heap.size := by rw [← hW18]; simp [World.setCell]
     have hb18 : Below w.heap.size w W18 := by
      have h14 := HX5.out.trans (HB14.out.mono HX5.out.size)
      rw [← hW18]
      exact (((((h14.setCell (p := ⟨KM + 1, 0, none⟩) (by show w.heap.size ≤ KM + 1; omega) _).setCell (p := ⟨KM + 1, 1, none⟩) (by show w.heap.size ≤ KM + 1; omega) _).setCell (p := ⟨KM + 1, 2, none⟩) (by show w.heap.size ≤ KM + 1; omega) _).setCell (p := ⟨KM + 1, 3, none⟩) (by show w.heap.size ≤ KM + 1; omega) _).setCell (p := ⟨KM + 1, 4, none⟩) (by show w.heap.size ≤ KM + 1; omega) _).setCell (p := ⟨KM + 1, 5, none⟩) (by show w.heap.size ≤ KM + 1; omega) _
     rw [hW18]
     have e0 := hR18.c 0 _ rfl
     have e1 := hR18.c 1 _ rfl
     have e2 := hR18.c 2 _ rfl
     have e3 := hR18.c 3 _ rfl
     have e4 := hR18.c 4 _ rfl
     have e5 := hR18.c 5 _ rfl
     clear hS hW18 q0 q1 q2 q3 q4 q5
     go_wp2_with fail
     refine bodyPost_ret (v := .agg #[.string ⟨m.name.toArray⟩, .slice po pn pc', .slice uo un uc, .int .i64 m.prim, .slice fo fl fc, .int .i64 m.at_]) (by simp [results, Tryz.results9, go_sem, e0, e1, e2, e3, e4, e5]) rfl ?_
     refine ⟨hb18, _, _, _, rfl, ?_, ?_, ?_⟩
     · exact (HP14.out.kp ⟨by omega, fun b hb _ => hkp b (by omega)⟩).mono (fun b hb _ => by omega)
     · exact (HT14.out.kp ⟨by omega, fun b hb _ => hkp b (by omega)⟩).mono (fun b hb _ => by omega)
     · have hb9s := HB9.out.size
       obtain ⟨vl, h1, h2, h3⟩ := HO14.out.kp (w' := W18) (by omega) (fun b _ hb => hkp b (by omega))
       exact ⟨vl, h1, own_mono h2 (by omega), fun x hx => ⟨(h3 x hx).1.mono (fun b hb _ => ⟨by have := hb.1; omega, hb.2⟩), (h3 x hx).2.mono (fun b hb _ => ⟨by have := hb.1; omega, hb.2⟩)⟩⟩
   · skip
     go_simp
     have hX7 := alloc_bel (W5.drew.alloc (.cells #[] 9)) (.cells #[] 9)
     have HB6b := Lib.hid (HB6.out.trans (hX7.mono HB6.out.size))
     have HE6b := Lib.hid (own_mono (World.ownsRow_made (e := 9) (size := 1) (W5.drew.alloc (.cells #[] 9)) #[] 0 (Nat.le_refl _) (by unfold maxLen; omega) rfl) HB6.out.size)
     have HE2' := Lib.hid (own_below HE2.out hX7)
     clear hX7 HE2
     have HE2 := HE2'
     clear HE2'
     refine hK.out _ _ (hS _ HB6b.out) (fun hH2 => ?_)
     clear hK K
     try simp only [Act.put, Hd.sa, Hd.sz, Hd.ss]
     refine Hd.one 5 5 (o := ?_) ?_ (by kernel_rfl) (fun K hK => ?_)
     rotate_left 1
     · simp only [Hd.ga, Hd.gs, Hd.gz]
       exact rfl
     refine step_rd (S := fun _ => True) (f := strV) (fun _ => rfl) rfl (.tmp 5) (.tmp 7) 22 9 rfl tI iI (.string ⟨#[]⟩) 16 hiI hI0 hI1 hI2 rfl (by exact HE2.out) (by simp [Act.eval]) (by simp [Act.eval]) (HMP.out.below HB6b.out) (by unfold maxLen; have := HP.out; omega) (by have := HP.out; omega) (by exact HB6b.out.size) ?_
     intro v5 w7 hown5 hg5 hat5
     have hb5 := HB6b.out.grown hg5 HB6b.out.size (fun k hk => (HE2.out.lt k hk).1)
     have HB7 := Lib.hid hb5
     have HP5 := Lib.hid (show w7.ownsRow W5.heap.size 9 1 v5 m.params.length (m.params.map strV) by simpa using hown5)
     have HE7 := Lib.hid (World.ownsRow.kept HE6b.out hg5 (.inr (fun h => by simp [Value.ownBlock] at h)))
     have HP7 := HP5
     have HNE : Hid (v5.ownBlock = none ∨ v5.ownBlock ≠ some (W5.drew.alloc (.cells #[] 9)).heap.size) := Lib.hid (.inr (fun h => by
      rcases hat5 with h1 | h1
      · rw [h] at h1; simp [Value.ownBlock] at h1
      · rw [h] at h1; simp at h1 <;> omega))
     clear hown5 hg5 hb5 hat5
     refine hK.out _ _ (hS _ HB7.out) (fun hH3 => ?_)
     clear hK K
     try simp only [Act.put, Hd.sa, Hd.sz, Hd.ss]
     obtain ⟨po, pn, pc', rfl⟩ : ∃ a b c, v5 = .slice a b c := by obtain ⟨fo, fc, h, -⟩ := own_slice HP7.out; exact ⟨_, _, _, h⟩
     refine Hd.one 9 9 (o := ?_) ?_ (by kernel_rfl) (fun K hK => ?_)
     rotate_left 1
     · simp only [Hd.ga, Hd.gs, Hd.gz]
       exact rfl
     refine step_rd (S := fun _ => True) (f := strV) (fun _ => rfl) rfl (.tmp 9) (.tmp 11) 22 9 rfl tI iI (.string ⟨#[]⟩) 16 hiI hI0 hI1 hI2 rfl (by exact HE7.out) (by simp [Act.eval]) (by simp [Act.eval]) (HMT.out.below HB7.out) (by unfold maxLen; have := HT.out; omega) (by have := HT.out; omega) (by exact HB7.out.size) ?_
     intro v9 w9 hown9 hg9 _
     have HB9 := Lib.hid (HB7.out.grown hg9 HB7.out.size (fun k hk => (HE7.out.lt k hk).1))
     have hT9 : w9.ownsRow W5.heap.size 9 1 v9 m.temps.length (m.temps.map strV) := by simpa using hown9
     have hP9 := World.ownsRow.kept HP7.out hg9 HNE.out
     obtain ⟨uo, un, uc, rfl⟩ : ∃ a b c, v9 = .slice a b c := by obtain ⟨fo, fc, h, -⟩ := own_slice hT9; exact ⟨_, _, _, h⟩
     have HT9 := Lib.hid (Rd.of hT9)
     have HP9 := Lib.hid (Rd.of hP9)
     clear hown9 hg9 hT9 hP9
     refine hK.out _ _ (hS _ HB9.out) (fun hH8 => ?_)
     clear hK K
     try simp only [Act.put, Hd.sa, Hd.sz, Hd.ss]
     refine Hd.one 14 14 (o := ?_) ?_ (by kernel_rfl) (fun K hK => ?_)
     rotate_left 1
     · simp only [Hd.ga, Hd.gs, Hd.gz]
       exact rfl
     go_simp
     refine (HND.out _ _ (HMB.out.bel HB9.out)).mono ?_; rintro e w14 ⟨hb14, v14, rfl, hO14⟩
     obtain ⟨fo, fl, fc, rfl⟩ : ∃ a b c, v14 = .slice a b c := by obtain ⟨vl6, -, ho6, -⟩ := hO14; obtain ⟨ao, co, h, -⟩ := own_slice ho6; exact ⟨_, _, _, h⟩
     have hb14' := HB9.out.trans (hb14.mono HB9.out.size)
     have HT14 := Lib.hid (HT9.out.below hb14)
     have HP14 := Lib.hid (HP9.out.below hb14)
     have HO14 := Lib.hid hO14
     have HS14 := Lib.hid (hb14.size)
     have HB14 := Lib.hid hb14'
     have HR14 := Lib.hid (HR5.out.below hb14' hrl)
     clear hb14 hO14 hb14'
     go_wp2_with fail
     refine hK.out _ _ (hS _ HB14.out) (fun hH9 => ?_)
     clear hK K
     try simp only [Act.put, Hd.sa, Hd.sz, Hd.ss]
     refine Hd.take 17 18 (oi := ?_) (v := ?_) ?_ (by kernel_rfl) (fun _ _ _ h => h) hH9 ?_ ?_ ?_
     rotate_left 2
     · simp only [Hd.ga, Hd.gs, Hd.gz]
       exact rfl
     · rfl
     · intro w hSw
       (try dsimp only at hSw)
       go_simp
       try with_reducible rfl
     try simp only [Act.put, Hd.sa, Hd.sz, Hd.ss]
     have q0 := HR14.out.c 0 _ rfl
     have q1 := HR14.out.c 1 _ rfl
     have q2 := HR14.out.c 2 _ rfl
     have q3 := HR14.out.c 3 _ rfl
     have q4 := HR14.out.c 4 _ rfl
     have q5 := HR14.out.c 5 _ rfl
     have qf := HR14.out.fz
     have ql := HR14.out.lt
     refine Hd.last 18 (o := ?_) ?_ (by kernel_rfl) (by kernel_rfl) (by kernel_rfl) (fun K hK => ?_)
     rotate_left 1
     · simp only [Hd.ga, Hd.gs, Hd.gz]
       exact rfl
     go_simp
     refine hK.out _ _ ?_
     clear hK K
     try simp only [Act.put, Hd.sa, Hd.sz, Hd.ss]
     simp only [NoPanic]
     obtain ⟨W18, hW18⟩ : ∃ W, (((((w14.setCell ⟨KM + 1, 0, none⟩ (.string ⟨m.name.toArray⟩)).setCell ⟨KM + 1, 1, none⟩ (.slice po pn pc')).setCell ⟨KM + 1, 2, none⟩ (.slice uo un uc)).setCell ⟨KM + 1, 3, none⟩ (.int .i64 m.prim)).setCell ⟨KM + 1, 4, none⟩ (.slice fo fl fc)).setCell ⟨KM + 1, 5, none⟩ (.int .i64 m.at_) = W := ⟨_, rfl⟩
     have hR18 : Blk 30 (KM + 1) #[.string ⟨m.name.toArray⟩, .slice po pn pc', .slice uo un uc, .int .i64 m.prim, .slice fo fl fc, .int .i64 m.at_] W18 := by
      rw [← hW18]
      exact (((((HR14.out.set_ 0 _ _ rfl).set_ 1 _ _ rfl).set_ 2 _ _ rfl).set_ 3 _ _ rfl).set_ 4 _ _ rfl).set_ 5 _ _ rfl
     have hkp : ∀ b, b ≠ KM + 1 → W18.heap[b]? = w14.heap[b]? := fun b hb => by
      rw [← hW18]
      exact (Below.heap_setCell _ _ _ b hb).trans ((Below.heap_setCell _ _ _ b hb).trans ((Below.heap_setCell _ _ _ b hb).trans ((Below.heap_setCell _ _ _ b hb).trans ((Below.heap_setCell _ _ _ b hb).trans (Below.heap_setCell _ _ _ b hb)))))
     have hsz18 : W18.heap.size = w14.heap.size := by rw [← hW18]; simp [World.setCell]
     have hb18 : Below w.heap.size w W18 := by
      have h14 := HX5.out.trans (HB14.out.mono HX5.out.size)
      rw [← hW18]
      exact (((((h14.setCell (p := ⟨KM + 1, 0, none⟩) (by show w.heap.size ≤ KM + 1; omega) _).setCell (p := ⟨KM + 1, 1, none⟩) (by show w.heap.size ≤ KM + 1; omega) _).setCell (p := ⟨KM + 1, 2, none⟩) (by show w.heap.size ≤ KM + 1; omega) _).setCell (p := ⟨KM + 1, 3, none⟩) (by show w.heap.size ≤ KM + 1; omega) _).setCell (p := ⟨KM + 1, 4, none⟩) (by show w.heap.size ≤ KM + 1; omega) _).setCell (p := ⟨KM + 1, 5, none⟩) (by show w.heap.size ≤ KM + 1; omega) _
     rw [hW18]
     have e0 := hR18.c 0 _ rfl
     have e1 := hR18.c 1 _ rfl
     have e2 := hR18.c 2 _ rfl
     have e3 := hR18.c 3 _ rfl
     have e4 := hR18.c 4 _ rfl
     have e5 := hR18.c 5 _ rfl
     clear hS hW18 q0 q1 q2 q3 q4 q5
     go_wp2_with fail
     refine bodyPost_ret (v := .agg #[.string ⟨m.name.toArray⟩, .slice po pn pc', .slice uo un uc, .int .i64 m.prim, .slice fo fl fc, .int .i64 m.at_]) (by simp [results, Tryz.results9, go_sem, e0, e1, e2, e3, e4, e5]) rfl ?_
     refine ⟨hb18, _, _, _, rfl, ?_, ?_, ?_⟩
     · exact (HP14.out.kp ⟨by omega, fun b hb _ => hkp b (by omega)⟩).mono (fun b hb _ => by omega)
     · exact (HT14.out.kp ⟨by omega, fun b hb _ => hkp b (by omega)⟩).mono (fun b hb _ => by omega)
     · have hb9s := HB9.out.size
       obtain ⟨vl, h1, h2, h3⟩ := HO14.out.kp (w' := W18) (by omega) (fun b _ hb => hkp b (by omega))
       exact ⟨vl, h1, own_mono h2 (by omega), fun x hx => ⟨(h3 x hx).1.mono (fun b hb _ => ⟨by have := hb.1; omega, hb.2⟩), (h3 x hx).2.mono (fun b hb _ => ⟨by have := hb.1; omega, hb.2⟩)⟩⟩
 · skip
   go_simp
   have hX6 : Below W5.heap.size W5 (W5.drew.alloc (.cells #[] 9)) := (Below.refl _ W5).drew.alloc (Nat.le_refl _) _
   have HE6 := Lib.hid (World.ownsRow_made (e := 9) (size := 1) W5.drew #[] 0 (Nat.le_refl _) (by unfold maxLen; omega) rfl)
   have HB6 := Lib.hid hX6
   refine hK.out _ _ (hS _ hX6) (fun hH1 => ?_)
   clear hK K hX6
   try simp only [Act.put, Hd.sa, Hd.sz, Hd.ss]
   have hX7 := alloc_bel (W5.drew.alloc (.cells #[] 9)) (.cells #[] 9)
   have HB6b := Lib.hid (HB6.out.trans (hX7.mono HB6.out.size))
   have HE2 := Lib.hid (own_mono (World.ownsRow_made (e := 9) (size := 1) (W5.drew.alloc (.cells #[] 9)) #[] 0 (Nat.le_refl _) (by unfold maxLen; omega) rfl) HB6.out.size)
   have HE6b := Lib.hid (own_below HE6.out hX7)
   clear hX7
   refine Hd.one 2 2 (o := ?_) ?_ (by kernel_rfl) (fun K hK => ?_)
   rotate_left 1
   · simp only [Hd.ga, Hd.gs, Hd.gz]
     exact rfl
   go_simp
   refine hK.out _ _ (hS _ HB6b.out) (fun hH2 => ?_)
   clear hK K
   try simp only [Act.put, Hd.sa, Hd.sz, Hd.ss]
   refine Hd.one 5 5 (o := ?_) ?_ (by kernel_rfl) (fun K hK => ?_)
   rotate_left 1
   · simp only [Hd.ga, Hd.gs, Hd.gz]
     exact rfl
   refine step_rd (S := fun _ => True) (f := strV) (fun _ => rfl) rfl (.tmp 5) (.tmp 7) 22 9 rfl tI iI (.string ⟨#[]⟩) 16 hiI hI0 hI1 hI2 rfl (by exact HE2.out) (by simp [Act.eval]) (by simp [Act.eval]) (HMP.out.below HB6b.out) (by unfold maxLen; have := HP.out; omega) (by have := HP.out; omega) (by exact HB6b.out.size) ?_
   intro v5 w7 hown5 hg5 hat5
   have hb5 := HB6b.out.grown hg5 HB6b.out.size (fun k hk => (HE2.out.lt k hk).1)
   have HB7 := Lib.hid hb5
   have HP5 := Lib.hid (show w7.ownsRow W5.heap.size 9 1 v5 m.params.length (m.params.map strV) by simpa using hown5)
   have HE7 := Lib.hid (World.ownsRow.kept HE6b.out hg5 (.inr (fun h => by simp [Value.ownBlock] at h)))
   have HP7 := HP5
   have HNE : Hid (v5.ownBlock = none ∨ v5.ownBlock ≠ some W5.drew.heap.size) := Lib.hid (.inr (fun h => by
    rcases hat5 with h1 | h1
    · rw [h] at h1; simp [Value.ownBlock] at h1
    · rw [h] at h1; simp at h1; omega))
   clear hown5 hg5 hb5 hat5
   refine hK.out _ _ (hS _ HB7.out) (fun hH3 => ?_)
   clear hK K
   try simp only [Act.put, Hd.sa, Hd.sz, Hd.ss]
   obtain ⟨po, pn, pc', rfl⟩ : ∃ a b c, v5 = .slice a b c := by obtain ⟨fo, fc, h, -⟩ := own_slice HP7.out; exact ⟨_, _, _, h⟩
   refine Hd.one 9 9 (o := ?_) ?_ (by kernel_rfl) (fun K hK => ?_)
   rotate_left 1
   · simp only [Hd.ga, Hd.gs, Hd.gz]
     exact rfl
   refine step_rd (S := fun _ => True) (f := strV) (fun _ => rfl) rfl (.tmp 9) (.tmp 11) 22 9 rfl tI iI (.string ⟨#[]⟩) 16 hiI hI0 hI1 hI2 rfl (by exact HE7.out) (by simp [Act.eval]) (by simp [Act.eval]) (HMT.out.below HB7.out) (by unfold maxLen; have := HT.out; omega) (by have := HT.out; omega) (by exact HB7.out.size) ?_
   intro v9 w9 hown9 hg9 _
   have HB9 := Lib.hid (HB7.out.grown hg9 HB7.out.size (fun k hk => (HE7.out.lt k hk).1))
   have hT9 : w9.ownsRow W5.heap.size 9 1 v9 m.temps.length (m.temps.map strV) := by simpa using hown9
   have hP9 := World.ownsRow.kept HP7.out hg9 HNE.out
   obtain ⟨uo, un, uc, rfl⟩ : ∃ a b c, v9 = .slice a b c := by obtain ⟨fo, fc, h, -⟩ := own_slice hT9; exact ⟨_, _, _, h⟩
   have HT9 := Lib.hid (Rd.of hT9)
   have HP9 := Lib.hid (Rd.of hP9)
   clear hown9 hg9 hT9 hP9
   refine hK.out _ _ (hS _ HB9.out) (fun hH8 => ?_)
   clear hK K
   try simp only [Act.put, Hd.sa, Hd.sz, Hd.ss]
   refine Hd.one 14 14 (o := ?_) ?_ (by kernel_rfl) (fun K hK => ?_)
   rotate_left 1
   · simp only [Hd.ga, Hd.gs, Hd.gz]
     exact rfl
   go_simp
   refine (HND.out _ _ (HMB.out.bel HB9.out)).mono ?_; rintro e w14 ⟨hb14, v14, rfl, hO14⟩
   obtain ⟨fo, fl, fc, rfl⟩ : ∃ a b c, v14 = .slice a b c := by obtain ⟨vl6, -, ho6, -⟩ := hO14; obtain ⟨ao, co, h, -⟩ := own_slice ho6; exact ⟨_, _, _, h⟩
   have hb14' := HB9.out.trans (hb14.mono HB9.out.size)
   have HT14 := Lib.hid (HT9.out.below hb14)
   have HP14 := Lib.hid (HP9.out.below hb14)
   have HO14 := Lib.hid hO14
   have HS14 := Lib.hid (hb14.size)
   have HB14 := Lib.hid hb14'
   have HR14 := Lib.hid (HR5.out.below hb14' hrl)
   clear hb14 hO14 hb14'
   go_wp2_with fail
   refine hK.out _ _ (hS _ HB14.out) (fun hH9 => ?_)
   clear hK K
   try simp only [Act.put, Hd.sa, Hd.sz, Hd.ss]
   refine Hd.take 17 18 (oi := ?_) (v := ?_) ?_ (by kernel_rfl) (fun _ _ _ h => h) hH9 ?_ ?_ ?_
   rotate_left 2
   · simp only [Hd.ga, Hd.gs, Hd.gz]
     exact rfl
   · rfl
   · intro w hSw
     (try dsimp only at hSw)
     go_simp
     try with_reducible rfl
   try simp only [Act.put, Hd.sa, Hd.sz, Hd.ss]
   have q0 := HR14.out.c 0 _ rfl
   have q1 := HR14.out.c 1 _ rfl
   have q2 := HR14.out.c 2 _ rfl
   have q3 := HR14.out.c 3 _ rfl
   have q4 := HR14.out.c 4 _ rfl
   have q5 := HR14.out.c 5 _ rfl
   have qf := HR14.out.fz
   have ql := HR14.out.lt
   refine Hd.last 18 (o := ?_) ?_ (by kernel_rfl) (by kernel_rfl) (by kernel_rfl) (fun K hK => ?_)
   rotate_left 1
   · simp only [Hd.ga, Hd.gs, Hd.gz]
     exact rfl
   go_simp
   refine hK.out _ _ ?_
   clear hK K
   try simp only [Act.put, Hd.sa, Hd.sz, Hd.ss]
   simp only [NoPanic]
   obtain ⟨W18, hW18⟩ : ∃ W, (((((w14.setCell ⟨KM + 1, 0, none⟩ (.string ⟨m.name.toArray⟩)).setCell ⟨KM + 1, 1, none⟩ (.slice po pn pc')).setCell ⟨KM + 1, 2, none⟩ (.slice uo un uc)).setCell ⟨KM + 1, 3, none⟩ (.int .i64 m.prim)).setCell ⟨KM + 1, 4, none⟩ (.slice fo fl fc)).setCell ⟨KM + 1, 5, none⟩ (.int .i64 m.at_) = W := ⟨_, rfl⟩
   have hR18 : Blk 30 (KM + 1) #[.string ⟨m.name.toArray⟩, .slice po pn pc', .slice uo un uc, .int .i64 m.prim, .slice fo fl fc, .int .i64 m.at_] W18 := by
    rw [← hW18]
    exact (((((HR14.out.set_ 0 _ _ rfl).set_ 1 _ _ rfl).set_ 2 _ _ rfl).set_ 3 _ _ rfl).set_ 4 _ _ rfl).set_ 5 _ _ rfl
   have hkp : ∀ b, b ≠ KM + 1 → W18.heap[b]? = w14.heap[b]? := fun b hb => by
    rw [← hW18]
    exact (Below.heap_setCell _ _ _ b hb).trans ((Below.heap_setCell _ _ _ b hb).trans ((Below.heap_setCell _ _ _ b hb).trans ((Below.heap_setCell _ _ _ b hb).trans ((Below.heap_setCell _ _ _ b hb).trans (Below.heap_setCell _ _ _ b hb)))))
   have hsz18 : W18.heap.size = w14.heap.size := by rw [← hW18]; simp [World.setCell]
   have hb18 : Below w.heap.size w W18 := by
    have h14 := HX5.out.trans (HB14.out.mono HX5.out.size)
    rw [← hW18]
    exact (((((h14.setCell (p := ⟨KM + 1, 0, none⟩) (by show w.heap.size ≤ KM + 1; omega) _).setCell (p := ⟨KM + 1, 1, none⟩) (by show w.heap.size ≤ KM + 1; omega) _).setCell (p := ⟨KM + 1, 2, none⟩) (by show w.heap.size ≤ KM + 1; omega) _).setCell (p := ⟨KM + 1, 3, none⟩) (by show w.heap.size ≤ KM + 1; omega) _).setCell (p := ⟨KM + 1, 4, none⟩) (by show w.heap.size ≤ KM + 1; omega) _).setCell (p := ⟨KM + 1, 5, none⟩) (by show w.heap.size ≤ KM + 1; omega) _
   rw [hW18]
   have e0 := hR18.c 0 _ rfl
   have e1 := hR18.c 1 _ rfl
   have e2 := hR18.c 2 _ rfl
   have e3 := hR18.c 3 _ rfl
   have e4 := hR18.c 4 _ rfl
   have e5 := hR18.c 5 _ rfl
   clear hS hW18 q0 q1 q2 q3 q4 q5
   go_wp2_with fail
   refine bodyPost_ret (v := .agg #[.string ⟨m.name.toArray⟩, .slice po pn pc', .slice uo un uc, .int .i64 m.prim, .slice fo fl fc, .int .i64 m.at_]) (by simp [results, Tryz.results9, go_sem, e0, e1, e2, e3, e4, e5]) rfl ?_
   refine ⟨hb18, _, _, _, rfl, ?_, ?_, ?_⟩
   · exact (HP14.out.kp ⟨by omega, fun b hb _ => hkp b (by omega)⟩).mono (fun b hb _ => by omega)
   · exact (HT14.out.kp ⟨by omega, fun b hb _ => hkp b (by omega)⟩).mono (fun b hb _ => by omega)
   · have hb9s := HB9.out.size
     obtain ⟨vl, h1, h2, h3⟩ := HO14.out.kp (w' := W18) (by omega) (fun b _ hb => hkp b (by omega))
     exact ⟨vl, h1, own_mono h2 (by omega), fun x hx => ⟨(h3 x hx).1.mono (fun b hb _ => ⟨by have := hb.1; omega, hb.2⟩), (h3 x hx).2.mono (fun b hb _ => ⟨by have := hb.1; omega, hb.2⟩)⟩⟩
/-- Two blocks may turn. -/
structure Two (KM KR : Nat) (w w' : World) : Prop where
 os : w'.os = w.os
 tape : w'.tape = w.tape
 output : w'.output = w.output
 size : w'.heap.size = w.heap.size
 block : ∀ b, b ≠ KM → b ≠ KR → w'.heap[b]? = w.heap[b]?
theorem Two.refl (KM KR : Nat) (w : World) : Two KM KR w w := ⟨rfl, rfl, rfl, rfl, fun _ _ _ => rfl⟩
theorem Two.km {KM KR : Nat} {w w' : World} (h : Two KM KR w w') (i : Nat) (u : Value) : Two KM KR w (w'.setCell ⟨KM, i, none⟩ u) :=
 ⟨h.os, h.tape, h.output, by rw [← h.size]; simp [World.setCell], fun b h1 h2 => (Below.heap_setCell w' ⟨KM, i, none⟩ u b h1).trans (h.block b h1 h2)⟩
theorem Two.kr {KM KR : Nat} {w w' : World} (h : Two KM KR w w') (i : Nat) (u : Value) : Two KM KR w (w'.setCell ⟨KR, i, none⟩ u) :=
 ⟨h.os, h.tape, h.output, by rw [← h.size]; simp [World.setCell], fun b h1 h2 => (Below.heap_setCell w' ⟨KR, i, none⟩ u b h2).trans (h.block b h1 h2)⟩
theorem fin_cut {KM KR B : Nat} {P : Nat → Prop} {w w4 WF : World} {m : Mt} {pv tv bv V : Value} (h : Two KM KR w4 WF) (hb : Below B w w4) (h1 : B ≤ KM) (h2 : B ≤ KR) (hV : V = mtV m pv tv bv)
  (hp : Rd (fun b => (b ≠ KM ∧ b ≠ KR) ∧ P b) strV w4 pv m.params) (ht : Rd (fun b => (b ≠ KM ∧ b ≠ KR) ∧ P b) strV w4 tv m.temps) (hbd : Tree (fun b => (b ≠ KM ∧ b ≠ KR) ∧ P b) w4 bv m.body) :
  Below B w WF ∧ ∃ pv' tv' bv', Ending.returned V = .returned (mtV m pv' tv' bv') ∧ MtAt P WF m pv' tv' bv' := by
 have hkp : Kp (fun b => (b ≠ KM ∧ b ≠ KR) ∧ P b) w4 WF := ⟨Nat.le_of_eq h.size.symm, fun b hb _ => h.block b hb.1.1 hb.1.2⟩
 exact ⟨⟨h.os.trans hb.os, h.tape.trans hb.tape, h.output.trans hb.output, by rw [h.size]; exact hb.size, fun b hlt => (h.block b (by omega) (by omega)).trans (hb.block b hlt)⟩, pv, tv, bv, by rw [hV], (hp.kp hkp).mono (fun _ h _ => h.2), (ht.kp hkp).mono (fun _ h _ => h.2), (hbd.kp hkp).mono (fun _ h _ => h.2)⟩
set_option maxRecDepth 100000 in
set_option maxHeartbeats 6400000 in
theorem cutm_any (B0 : Nat) (m : Mt) (pv tv bv : Value) (w : World) (hB0 : B0 ≤ w.heap.size) (hm1 : MtAt (fun b => b < B0) w m pv tv bv) :
  Calls Tryz.prog 8 #[mtV m pv tv bv] w (fun e w' => Below w.heap.size w w' ∧ ∃ pv' tv' bv', e = .returned (mtV (cutM m) pv' tv' bv') ∧ MtAt (fun b => b < B0 ∨ w.heap.size ≤ b) w' (cutM m) pv' tv' bv') := by
 have hm := hm1
 obtain ⟨pa, pc, rfl, hpc, hpm⟩ := hm.params.form
 obtain ⟨ta, tc, rfl, htc, htm⟩ := hm.temps.form
 obtain ⟨ba, bc, rfl, -, -⟩ := hm.body.form
 obtain ⟨pl, hp⟩ : ∃ q, m.params.length = q := ⟨_, rfl⟩
 obtain ⟨tl, ht⟩ : ∃ q, m.temps.length = q := ⟨_, rfl⟩
 obtain ⟨bl, hbl⟩ : ∃ q, m.body.length = q := ⟨_, rfl⟩
 have HP := Lib.hid hp
 have HT := Lib.hid ht
 unfold maxLen at hpm htm
 obtain ⟨W, hW⟩ : ∃ W, ((w.alloc (.cells #[.string ⟨m.name.toArray⟩, .slice pa pl pc, .slice ta tl tc, .int .i64 m.prim, .slice ba bl bc, .int .i64 m.at_] 25)).alloc (.cells #[.string ⟨#[]⟩, .slice none 0 0, .slice none 0 0, .int .i64 0, .slice none 0 0, .int .i64 0] 25)).alloc (.cells #[.int .i64 200] 3) = W := ⟨_, rfl⟩
 rw [hp, ht, hbl] at hm1
 have hX1 := alloc_bel w (.cells #[.string ⟨m.name.toArray⟩, .slice pa pl pc, .slice ta tl tc, .int .i64 m.prim, .slice ba bl bc, .int .i64 m.at_] 25)
 have hX2 := alloc_bel (w.alloc (.cells #[.string ⟨m.name.toArray⟩, .slice pa pl pc, .slice ta tl tc, .int .i64 m.prim, .slice ba bl bc, .int .i64 m.at_] 25)) (.cells #[.string ⟨#[]⟩, .slice none 0 0, .slice none 0 0, .int .i64 0, .slice none 0 0, .int .i64 0] 25)
 have hX3 := alloc_bel ((w.alloc (.cells #[.string ⟨m.name.toArray⟩, .slice pa pl pc, .slice ta tl tc, .int .i64 m.prim, .slice ba bl bc, .int .i64 m.at_] 25)).alloc (.cells #[.string ⟨#[]⟩, .slice none 0 0, .slice none 0 0, .int .i64 0, .slice none 0 0, .int .i64 0] 25)) (.cells #[.int .i64 200] 3)
 have hX12 := hX1.trans (hX2.mono hX1.size)
 have hX : Below w.heap.size w W := by rw [← hW]; exact hX12.trans (hX3.mono hX12.size)
 have hz1 : (w.alloc (.cells #[.string ⟨m.name.toArray⟩, .slice pa pl pc, .slice ta tl tc, .int .i64 m.prim, .slice ba bl bc, .int .i64 m.at_] 25)).heap.size = w.heap.size + 1 := by simp
 have hz2 : ((w.alloc (.cells #[.string ⟨m.name.toArray⟩, .slice pa pl pc, .slice ta tl tc, .int .i64 m.prim, .slice ba bl bc, .int .i64 m.at_] 25)).alloc (.cells #[.string ⟨#[]⟩, .slice none 0 0, .slice none 0 0, .int .i64 0, .slice none 0 0, .int .i64 0] 25)).heap.size = w.heap.size + 2 := by simp
 have hk1 : Blk 25 w.heap.size #[.string ⟨m.name.toArray⟩, .slice pa pl pc, .slice ta tl tc, .int .i64 m.prim, .slice ba bl bc, .int .i64 m.at_] W := by rw [← hW]; exact ((Blk.made w).alloc _).alloc _
 have hk2 : Blk 25 (w.heap.size + 1) #[.string ⟨#[]⟩, .slice none 0 0, .slice none 0 0, .int .i64 0, .slice none 0 0, .int .i64 0] W := by
  rw [← hW]
  have h := (Blk.made (T := 25) (cs := #[.string ⟨#[]⟩, .slice none 0 0, .slice none 0 0, .int .i64 0, .slice none 0 0, .int .i64 0]) (w.alloc (.cells #[.string ⟨m.name.toArray⟩, .slice pa pl pc, .slice ta tl tc, .int .i64 m.prim, .slice ba bl bc, .int .i64 m.at_] 25))).alloc (.cells #[.int .i64 200] 3)
  rw [hz1] at h
  exact h
 have hk3 : Blk 3 (w.heap.size + 2) #[.int .i64 ((200 : Nat) : Int)] W := by
  rw [← hW]
  have h := Blk.made (T := 3) (cs := #[.int .i64 200]) ((w.alloc (.cells #[.string ⟨m.name.toArray⟩, .slice pa pl pc, .slice ta tl tc, .int .i64 m.prim, .slice ba bl bc, .int .i64 m.at_] 25)).alloc (.cells #[.string ⟨#[]⟩, .slice none 0 0, .slice none 0 0, .int .i64 0, .slice none 0 0, .int .i64 0] 25))
  rw [hz2] at h
  exact h
 have hzW : W.heap.size = w.heap.size + 3 := by rw [← hW]; simp
 have hFW := few_any B0 (w.heap.size + 2) m.body (.slice ba bl bc) 60 200 W (by omega) (by omega) (by omega) hk3 (hm1.body.bel hX)
 have HFW := Lib.hid hFW
 have HPR := Lib.hid (hm1.params.below hX)
 have HTR := Lib.hid (hm1.temps.below hX)
 unfold mtV
 rw [hp, ht, hbl]
 rw [hp] at hpc
 rw [ht] at htc
 have HW := Lib.hid hW
 have HX := Lib.hid hX
 have HK1 := Lib.hid hk1
 have HK2 := Lib.hid hk2
 have HZ := Lib.hid hzW
 clear hm hm1 hp ht hbl hX1 hX2 hX3 hX12 hX hk1 hk2 hk3 hz1 hz2 hzW hFW hW
 go_enter Tryz.func8, Tryz.ntmps8
 go_wp2_with fail
 rw [HW.out]
 refine HFW.out.mono ?_; rintro e w4 ⟨v4, rfl, hO4, -, hbt4⟩
 have hT4 := hO4.tree
 have hlo4 : ∀ g, v4.ownBlock = some g → W.heap.size ≤ g := fun g hg => by obtain ⟨vl4, -, ho4, -⟩ := hO4; exact (ho4.lt g hg).1
 obtain ⟨fo, fl, fc, rfl⟩ : ∃ a b c, v4 = .slice a b c := by obtain ⟨vl4, -, ho4, -⟩ := hO4; obtain ⟨ao, co, h, -⟩ := own_slice ho4; exact ⟨_, _, _, h⟩
 have hzW := HZ.out
 have hK4 := hbt4.blk HK1.out (by omega)
 have hR4 := hbt4.blk HK2.out (by omega)
 have HT4 := Lib.hid (hT4.mono (S' := fun b => (b ≠ w.heap.size ∧ b ≠ w.heap.size + 1) ∧ (b < B0 ∨ w.heap.size ≤ b)) (fun b hb _ => by
  rcases hb with (hb | hb) | hb
  · omega
  · omega
  · have := hlo4 b hb; omega))
 have HP4 := Lib.hid ((HPR.out.kp (w' := w4) ⟨hbt4.size, fun b hb hl => hbt4.block b hl (by omega)⟩).mono (S' := fun b => (b ≠ w.heap.size ∧ b ≠ w.heap.size + 1) ∧ (b < B0 ∨ w.heap.size ≤ b)) (fun b hb _ => by omega))
 have HR4 := Lib.hid ((HTR.out.kp (w' := w4) ⟨hbt4.size, fun b hb hl => hbt4.block b hl (by omega)⟩).mono (S' := fun b => (b ≠ w.heap.size ∧ b ≠ w.heap.size + 1) ∧ (b < B0 ∨ w.heap.size ≤ b)) (fun b hb _ => by omega))
 have HB4 := Lib.hid (HX.out.trans (hbt4.bel (B := w.heap.size) (fun b h => by omega) HX.out.size))
 have c0 := hK4.c 0 _ rfl
 have c1 := hK4.c 1 _ rfl
 have c2 := hK4.c 2 _ rfl
 have c3 := hK4.c 3 _ rfl
 have c4 := hK4.c 4 _ rfl
 have c5 := hK4.c 5 _ rfl
 have cf := hK4.fz
 have cl := hK4.lt
 have r0 := hR4.c 0 _ rfl
 have r1 := hR4.c 1 _ rfl
 have r2 := hR4.c 2 _ rfl
 have r3 := hR4.c 3 _ rfl
 have r4 := hR4.c 4 _ rfl
 have r5 := hR4.c 5 _ rfl
 have rf := hR4.fz
 have rl := hR4.lt
 clear hO4 hbt4 hT4 hlo4 hK4 hR4 HW HX HK1 HK2 HZ HFW HPR HTR
 by_cases hp15 : 15 < pl
 · skip
   have hpd : decide ((15 : Int) < (pl : Int)) = true := decide_eq_true (by omega)
   have hp16 : decide ((15 : Int) ≤ (pc : Int)) = true := decide_eq_true (by omega)
   by_cases ht15 : 15 < tl
   · have htd : decide ((15 : Int) < (tl : Int)) = true := decide_eq_true (by omega)
     have ht16 : decide ((15 : Int) ≤ (tc : Int)) = true := decide_eq_true (by omega)
     go_wp2_with fail
     refine bodyPost_ret (v := .agg #[.string ⟨m.name.toArray⟩, .slice pa 15 pc, .slice ta 15 tc, .int .i64 m.prim, .slice fo fl fc, .int .i64 m.at_]) (by simp [results, Tryz.results8, go_sem, r0, r1, r2, r3, r4, r5]) rfl ?_
     refine fin_cut (P := fun b => b < B0 ∨ w.heap.size ≤ b) (KM := w.heap.size) (KR := w.heap.size + 1) (w4 := w4) (m := cutM m) (pv := .slice pa 15 pc) (tv := .slice ta 15 tc) (bv := .slice fo fl fc) ?_ HB4.out (Nat.le_refl _) (Nat.le_succ _) rfl (HP4.out.cut 15 (by omega)) (HR4.out.cut 15 (by omega)) HT4.out
     exact ((((((((((Two.refl _ _ _).km 4 _).km 1 _).km 2 _).kr 0 _).kr 1 _).kr 2 _).kr 3 _).kr 4 _).kr 5 _)
   · have htd : decide ((15 : Int) < (tl : Int)) = false := decide_eq_false (by omega)
     go_wp2_with fail
     refine bodyPost_ret (v := .agg #[.string ⟨m.name.toArray⟩, .slice pa 15 pc, .slice ta tl tc, .int .i64 m.prim, .slice fo fl fc, .int .i64 m.at_]) (by simp [results, Tryz.results8, go_sem, r0, r1, r2, r3, r4, r5]) rfl ?_
     refine fin_cut (P := fun b => b < B0 ∨ w.heap.size ≤ b) (KM := w.heap.size) (KR := w.heap.size + 1) (w4 := w4) (m := cutM m) (pv := .slice pa 15 pc) (tv := .slice ta tl tc) (bv := .slice fo fl fc) ?_ HB4.out (Nat.le_refl _) (Nat.le_succ _) rfl (HP4.out.cut 15 (by omega)) (show Rd _ strV w4 (.slice ta tl tc) (m.temps.take 15) from (by rw [List.take_of_length_le (by have := HT.out; omega)]; exact HR4.out)) HT4.out
     exact (((((((((Two.refl _ _ _).km 4 _).km 1 _).kr 0 _).kr 1 _).kr 2 _).kr 3 _).kr 4 _).kr 5 _)
 · skip
   have hpd : decide ((15 : Int) < (pl : Int)) = false := decide_eq_false (by omega)
   by_cases ht15 : 15 < tl
   · have htd : decide ((15 : Int) < (tl : Int)) = true := decide_eq_true (by omega)
     have ht16 : decide ((15 : Int) ≤ (tc : Int)) = true := decide_eq_true (by omega)
     go_wp2_with fail
     refine bodyPost_ret (v := .agg #[.string ⟨m.name.toArray⟩, .slice pa pl pc, .slice ta 15 tc, .int .i64 m.prim, .slice fo fl fc, .int .i64 m.at_]) (by simp [results, Tryz.results8, go_sem, r0, r1, r2, r3, r4, r5]) rfl ?_
     refine fin_cut (P := fun b => b < B0 ∨ w.heap.size ≤ b) (KM := w.heap.size) (KR := w.heap.size + 1) (w4 := w4) (m := cutM m) (pv := .slice pa pl pc) (tv := .slice ta 15 tc) (bv := .slice fo fl fc) ?_ HB4.out (Nat.le_refl _) (Nat.le_succ _) rfl (show Rd _ strV w4 (.slice pa pl pc) (m.params.take 15) from (by rw [List.take_of_length_le (by have := HP.out; omega)]; exact HP4.out)) (HR4.out.cut 15 (by omega)) HT4.out
     exact (((((((((Two.refl _ _ _).km 4 _).km 2 _).kr 0 _).kr 1 _).kr 2 _).kr 3 _).kr 4 _).kr 5 _)
   · have htd : decide ((15 : Int) < (tl : Int)) = false := decide_eq_false (by omega)
     go_wp2_with fail
     refine bodyPost_ret (v := .agg #[.string ⟨m.name.toArray⟩, .slice pa pl pc, .slice ta tl tc, .int .i64 m.prim, .slice fo fl fc, .int .i64 m.at_]) (by simp [results, Tryz.results8, go_sem, r0, r1, r2, r3, r4, r5]) rfl ?_
     refine fin_cut (P := fun b => b < B0 ∨ w.heap.size ≤ b) (KM := w.heap.size) (KR := w.heap.size + 1) (w4 := w4) (m := cutM m) (pv := .slice pa pl pc) (tv := .slice ta tl tc) (bv := .slice fo fl fc) ?_ HB4.out (Nat.le_refl _) (Nat.le_succ _) rfl (show Rd _ strV w4 (.slice pa pl pc) (m.params.take 15) from (by rw [List.take_of_length_le (by have := HP.out; omega)]; exact HP4.out)) (show Rd _ strV w4 (.slice ta tl tc) (m.temps.take 15) from (by rw [List.take_of_length_le (by have := HT.out; omega)]; exact HR4.out)) HT4.out
     exact ((((((((Two.refl _ _ _).km 4 _).kr 0 _).kr 1 _).kr 2 _).kr 3 _).kr 4 _).kr 5 _)
end Tr
end Go.Proofs.YtfbhokdcnjekiaaGreatDoor
