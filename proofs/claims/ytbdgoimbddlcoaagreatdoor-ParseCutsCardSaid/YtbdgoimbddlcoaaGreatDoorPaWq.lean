/- Package parse, the walk, 26: Method's deferred closure. -/
import Derived.Test.YtbdgoimbddlcoaaGreatDoorLxWb
import Derived.Test.YtbdgoimbddlcoaaGreatDoorBs
import Derived.Test.YtbdgoimbddlcoaaGreatDoorPaMem
set_option linter.unusedVariables false
namespace Go.Proofs.YtbdgoimbddlcoaaGreatDoor
open Go.RowKit
namespace Pa
open Bs Tr
def zmV : Value := .agg #[.string ⟨#[]⟩, .slice none 0 0, .slice none 0 0, .int .i64 0, .slice none 0 0, .int .i64 0]
set_option maxRecDepth 100000 in
set_option maxHeartbeats 1600000 in
theorem mcatch_idle (k2 k3 k4 : Nat) (w : World) :
  CallsD Tryz.prog 14 #[.pointer (some ⟨k2, 0, none⟩), .pointer (some ⟨k3, 0, none⟩), .pointer (some ⟨k4, 0, none⟩)] .returning w (Lx.Closed .returning fun w' => w = w') := by
 refine callsD_of_wpS Tryz.func14 rfl fun c₀ cs hu => ?_
 apply wpS_seq
 apply wpS_region
 simp [wpOpsS, go_sem, recoverD, hu, Tryz.ntmps14, Exit.thenS]
 refine wpS_of_wp ?_
 go_wp2_with fail
 cases c₀
 simp_all [bodyPostS, results, Tryz.results14, Lx.Closed]
/-- What Method's results hold behind a fault. -/
def FixedM (k2 k3 k4 : Nat) (a n : Int) (w w' : World) : Prop := Blk 28 k2 #[.string ⟨#[]⟩, .slice none 0 0, .slice none 0 0, .int .i64 0, .slice none 0 0, .int .i64 0] w' ∧ Blk 3 k3 #[.int .i64 a] w' ∧ Blk 29 k4 #[.int .i64 n] w' ∧ ∀ B, B ≤ k2 → B ≤ k3 → B ≤ k4 → B ≤ w.heap.size → Below B w w'
set_option maxRecDepth 100000 in
set_option maxHeartbeats 3200000 in
theorem mcatch_fault (k2 k3 k4 : Nat) (a n : Int) (w : World) (h2 : Blk 28 k2 #[.string ⟨#[]⟩, .slice none 0 0, .slice none 0 0, .int .i64 0, .slice none 0 0, .int .i64 0] w) (h3 : Blk 3 k3 #[.int .i64 0] w) (h4 : Blk 29 k4 #[.int .i64 0] w) (h23 : k2 ≠ k3) (h24 : k2 ≠ k4) (h34 : k3 ≠ k4) :
  CallsD Tryz.prog 14 #[.pointer (some ⟨k2, 0, none⟩), .pointer (some ⟨k3, 0, none⟩), .pointer (some ⟨k4, 0, none⟩)] (.panicking [{ v := .iface 48 (.agg #[.int .i64 a, .int .i64 n]), recovered := false }]) w
   (Lx.Closed (.panicking [{ v := .iface 48 (.agg #[.int .i64 a, .int .i64 n]), recovered := true }]) (FixedM k2 k3 k4 a n w)) := by
 have l2 := h2.lt
 have l3 := h3.lt
 have l4 := h4.lt
 have hta : ∀ v : World, (Instr.typeAssert (.iface 48 (.agg #[.int .i64 a, .int .i64 n])) 20 48 true).run Tryz.prog v = .ok (.tuple #[.agg #[.int .i64 a, .int .i64 n], .bool true]) v := fun _ => by kernel_rfl
 have hk5 := Blk.made (T := 48) (cs := #[.int .i64 a, .int .i64 n]) w
 have hb5 := alloc_bel w (.cells #[.int .i64 a, .int .i64 n] 48)
 have g2 := h2.alloc (.cells #[.int .i64 a, .int .i64 n] 48)
 have g3 := h3.alloc (.cells #[.int .i64 a, .int .i64 n] 48)
 have g4 := h4.alloc (.cells #[.int .i64 a, .int .i64 n] 48)
 obtain ⟨W, hal⟩ : ∃ W, w.alloc (.cells #[.int .i64 a, .int .i64 n] 48) = W := ⟨_, rfl⟩
 rw [hal] at hk5 hb5 g2 g3 g4
 obtain ⟨k5, h5⟩ : ∃ k, w.heap.size = k := ⟨_, rfl⟩
 rw [h5] at hk5 l2 l3 l4
 have n25 : ¬ k2 = k5 := by omega
 have n35 : ¬ k3 = k5 := by omega
 have n45 : ¬ k4 = k5 := by omega
 have n52 : ¬ k5 = k2 := by omega
 have n53 : ¬ k5 = k3 := by omega
 have n54 : ¬ k5 = k4 := by omega
 have n32 : ¬ k3 = k2 := fun e => h23 e.symm
 have n42 : ¬ k4 = k2 := fun e => h24 e.symm
 have n43 : ¬ k4 = k3 := fun e => h34 e.symm
 have n23 : ¬ k2 = k3 := h23
 have n24 : ¬ k2 = k4 := h24
 have n34 : ¬ k3 = k4 := h34
 have a0 := hk5.c 0 _ rfl
 have a1 := hk5.c 1 _ rfl
 have af := hk5.fz
 have m0 := g2.c 0 _ rfl
 have m1 := g2.c 1 _ rfl
 have m2 := g2.c 2 _ rfl
 have m3 := g2.c 3 _ rfl
 have m4 := g2.c 4 _ rfl
 have m5 := g2.c 5 _ rfl
 have mf := g2.fz
 have p0 := g3.c 0 _ rfl
 have pf := g3.fz
 have q0 := g4.c 0 _ rfl
 have qf := g4.fz
 refine callsD_of_wpS Tryz.func14 rfl fun c₀ cs hu => ?_
 apply wpS_seq
 apply wpS_region
 simp [wpOpsS, go_sem, recoverD, hu, Tryz.ntmps14, Exit.thenS]
 refine wpS_of_wp ?_
 go_upto_region 7 with fail
 refine wp_region_noPanic ?_
 refine Hd.start (fun v => (v.cell? ⟨k5, 0, none⟩ = some (.int .i64 a) ∧ v.cell? ⟨k5, 1, none⟩ = some (.int .i64 n))) (by kernel_rfl) ⟨a0, a1⟩ (fun hH0 => ?_)
 refine Hd.tk 0 5 hH0 ?_
 refine Hd.tk 1 2 hH0 ?_
 refine Hd.tk 2 6 hH0 ?_
 refine Hd.tk 3 4 hH0 ?_
 refine Hd.tk 4 7 hH0 ?_
 have g2 := Blk.drewN g2 1
 have g3 := Blk.drewN g3 1
 have g4 := Blk.drewN g4 1
 have g5 := Blk.drewN hk5 1
 have hb6 : ∀ B, B ≤ w.heap.size → Below B w (W.drewN 1) := fun B hB => (hb5.mono hB).drew
 clear hal hk5 hb5 a0 a1 hH0
 obtain ⟨V, hV⟩ : ∃ V, W.drewN 1 = V := ⟨_, rfl⟩
 rw [hV] at g2 g3 g4 g5 hb6
 have hV : W.drew = V := hV
 rw [hV]
 have m0 := g2.c 0 _ rfl
 have m1 := g2.c 1 _ rfl
 have m2 := g2.c 2 _ rfl
 have m3 := g2.c 3 _ rfl
 have m4 := g2.c 4 _ rfl
 have m5 := g2.c 5 _ rfl
 have mf := g2.fz
 have p0 := g3.c 0 _ rfl
 have pf := g3.fz
 have q0 := g4.c 0 _ rfl
 have qf := g4.fz
 refine Hd.on 5 (fun K hK => ?_)
 go_simp
 have k2' := blk_set6 (v0 := .string ⟨#[]⟩) (v1 := .slice none 0 0) (v2 := .slice none 0 0) (v3 := .int .i64 0) (v4 := .slice none 0 0) (v5 := .int .i64 0) g2
 have k5' := blk_far6 (k := k2) (v0 := .string ⟨#[]⟩) (v1 := .slice none 0 0) (v2 := .slice none 0 0) (v3 := .int .i64 0) (v4 := .slice none 0 0) (v5 := .int .i64 0) g5 n52
 have k3' := blk_far6 (k := k2) (v0 := .string ⟨#[]⟩) (v1 := .slice none 0 0) (v2 := .slice none 0 0) (v3 := .int .i64 0) (v4 := .slice none 0 0) (v5 := .int .i64 0) g3 n32
 have k4' := blk_far6 (k := k2) (v0 := .string ⟨#[]⟩) (v1 := .slice none 0 0) (v2 := .slice none 0 0) (v3 := .int .i64 0) (v4 := .slice none 0 0) (v5 := .int .i64 0) g4 n42
 have hb7 : ∀ B, B ≤ k2 → B ≤ w.heap.size → Below B w ((((((V.setCell ⟨k2, 0, none⟩ (.string ⟨#[]⟩)).setCell ⟨k2, 1, none⟩ (.slice none 0 0)).setCell ⟨k2, 2, none⟩ (.slice none 0 0)).setCell ⟨k2, 3, none⟩ (.int .i64 0)).setCell ⟨k2, 4, none⟩ (.slice none 0 0)).setCell ⟨k2, 5, none⟩ (.int .i64 0)) := fun B hB hs => ((((((hb6 B hs).setCell (p := ⟨k2, 0, none⟩) hB _).setCell (p := ⟨k2, 1, none⟩) hB _).setCell (p := ⟨k2, 2, none⟩) hB _).setCell (p := ⟨k2, 3, none⟩) hB _).setCell (p := ⟨k2, 4, none⟩) hB _).setCell (p := ⟨k2, 5, none⟩) hB _
 obtain ⟨X, hX⟩ : ∃ X, ((((((V.setCell ⟨k2, 0, none⟩ (.string ⟨#[]⟩)).setCell ⟨k2, 1, none⟩ (.slice none 0 0)).setCell ⟨k2, 2, none⟩ (.slice none 0 0)).setCell ⟨k2, 3, none⟩ (.int .i64 0)).setCell ⟨k2, 4, none⟩ (.slice none 0 0)).setCell ⟨k2, 5, none⟩ (.int .i64 0)) = X := ⟨_, rfl⟩
 rw [hX] at k2' k3' k4' k5' hb7 ⊢
 clear g2 g3 g4 g5 m0 m1 m2 m3 m4 m5 mf p0 pf q0 qf hX hV hb6
 have p0 := k3'.c 0 _ rfl
 have pf := k3'.fz
 have q0 := k4'.c 0 _ rfl
 have qf := k4'.fz
 refine hK.out _ _ ⟨k5'.c 0 _ rfl, k5'.c 1 _ rfl⟩ (fun hH1 => ?_)
 clear hK K
 try simp only [Act.put, Hd.sa, Hd.sz, Hd.ss]
 refine Hd.on 6 (fun K hK => ?_)
 go_simp
 have r5 := k5'.far (p := ⟨k3, 0, none⟩) n53 (.int .i64 a)
 refine hK.out _ _ ⟨r5.c 0 _ rfl, r5.c 1 _ rfl⟩ (fun hH2 => ?_)
 clear hK K
 try simp only [Act.put, Hd.sa, Hd.sz, Hd.ss]
 refine Hd.la 7 (fun K hK => ?_)
 go_simp
 refine hK.out _ _ ?_
 clear hK K
 try simp only [Act.put, Hd.sa, Hd.sz, Hd.ss]
 simp only [NoPanic]
 show bodyPostS _ _ _ _ _ Exit.normal _ _ _
 have hb8 : ∀ B, B ≤ k2 → B ≤ k3 → B ≤ k4 → B ≤ w.heap.size → Below B w ((X.setCell ⟨k3, 0, none⟩ (.int .i64 a)).setCell ⟨k4, 0, none⟩ (.int .i64 n)) := fun B x2 x3 x4 hs => ((hb7 B x2 hs).setCell (p := ⟨k3, 0, none⟩) x3 _).setCell (p := ⟨k4, 0, none⟩) x4 _
 have y2 := (k2'.far (p := ⟨k3, 0, none⟩) n23 (.int .i64 a)).far (p := ⟨k4, 0, none⟩) n24 (.int .i64 n)
 have y3 := (k3'.set_ 0 (.int .i64 a) _ rfl).far (p := ⟨k4, 0, none⟩) n34 (.int .i64 n)
 have y4 := (k4'.far (p := ⟨k3, 0, none⟩) n43 (.int .i64 a)).set_ 0 (.int .i64 n) _ rfl
 have hfin : FixedM k2 k3 k4 a n w ((X.setCell ⟨k3, 0, none⟩ (.int .i64 a)).setCell ⟨k4, 0, none⟩ (.int .i64 n)) := ⟨y2, by simpa using y3, by simpa using y4, hb8⟩
 simp [bodyPostS, results, Tryz.results14]
 exact ⟨rfl, rfl, hfin⟩
end Pa
end Go.Proofs.YtbdgoimbddlcoaaGreatDoor
