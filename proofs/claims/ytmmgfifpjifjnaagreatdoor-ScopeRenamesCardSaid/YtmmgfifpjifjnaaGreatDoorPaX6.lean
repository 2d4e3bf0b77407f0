/- Package parse, the walk, 26: Method's deferred closure. · Package parse, the walk, 27: Method. -/
import Derived.Test.YtmmgfifpjifjnaaGreatDoorLxWb
import Derived.Test.YtmmgfifpjifjnaaGreatDoorBs
import Derived.Test.YtmmgfifpjifjnaaGreatDoorPaX1
import Derived.Test.YtmmgfifpjifjnaaGreatDoorPaX5
set_option linter.unusedVariables false
namespace Go.Proofs.YtmmgfifpjifjnaaGreatDoor
open Go.RowKit
namespace Pa
open Bs Tr
def zmV : Value := .agg #[.string ⟨#[]⟩, .slice none 0 0, .slice none 0 0, .int .i64 0, .slice none 0 0, .int .i64 0]
set_option maxRecDepth 100000 in
set_option maxHeartbeats 1600000 in
theorem mcatch_idle (k2 k3 k4 : Nat) (w : World) :
  CallsD Tryz.prog 35 #[.pointer (some ⟨k2, 0, none⟩), .pointer (some ⟨k3, 0, none⟩), .pointer (some ⟨k4, 0, none⟩)] .returning w (Lx.Closed .returning fun w' => w = w') := by
 refine callsD_of_wpS Tryz.func35 rfl fun c₀ cs hu => ?_
 apply wpS_seq
 apply wpS_region
 simp [wpOpsS, go_sem, recoverD, hu, Tryz.ntmps35, Exit.thenS]
 refine wpS_of_wp ?_
 go_wp2_with fail
 cases c₀
 simp_all [bodyPostS, results, Tryz.results35, Lx.Closed]
def FixedM (k2 k3 k4 : Nat) (a n : Int) (w w' : World) : Prop := Blk 33 k2 #[.string ⟨#[]⟩, .slice none 0 0, .slice none 0 0, .int .i64 0, .slice none 0 0, .int .i64 0] w' ∧ Blk 3 k3 #[.int .i64 a] w' ∧ Blk 38 k4 #[.int .i64 n] w' ∧ ∀ B, B ≤ k2 → B ≤ k3 → B ≤ k4 → B ≤ w.heap.size → Below B w w'
set_option maxRecDepth 100000 in
set_option maxHeartbeats 3200000 in
theorem mcatch_fault (k2 k3 k4 : Nat) (a n : Int) (w : World) (h2 : Blk 33 k2 #[.string ⟨#[]⟩, .slice none 0 0, .slice none 0 0, .int .i64 0, .slice none 0 0, .int .i64 0] w) (h3 : Blk 3 k3 #[.int .i64 0] w) (h4 : Blk 38 k4 #[.int .i64 0] w) (h23 : k2 ≠ k3) (h24 : k2 ≠ k4) (h34 : k3 ≠ k4) :
  CallsD Tryz.prog 35 #[.pointer (some ⟨k2, 0, none⟩), .pointer (some ⟨k3, 0, none⟩), .pointer (some ⟨k4, 0, none⟩)] (.panicking [{ v := .iface 89 (.agg #[.int .i64 a, .int .i64 n]), recovered := false }]) w
   (Lx.Closed (.panicking [{ v := .iface 89 (.agg #[.int .i64 a, .int .i64 n]), recovered := true }]) (FixedM k2 k3 k4 a n w)) := by
 have l2 := h2.lt
 have l3 := h3.lt
 have l4 := h4.lt
 have hta : ∀ v : World, (Instr.typeAssert (.iface 89 (.agg #[.int .i64 a, .int .i64 n])) 20 89 true).run Tryz.prog v = .ok (.tuple #[.agg #[.int .i64 a, .int .i64 n], .bool true]) v := fun _ => by kernel_rfl
 have hk5 := Blk.made (T := 89) (cs := #[.int .i64 a, .int .i64 n]) w
 have hb5 := alloc_bel w (.cells #[.int .i64 a, .int .i64 n] 89)
 have g2 := h2.alloc (.cells #[.int .i64 a, .int .i64 n] 89)
 have g3 := h3.alloc (.cells #[.int .i64 a, .int .i64 n] 89)
 have g4 := h4.alloc (.cells #[.int .i64 a, .int .i64 n] 89)
 obtain ⟨W, hal⟩ : ∃ W, w.alloc (.cells #[.int .i64 a, .int .i64 n] 89) = W := ⟨_, rfl⟩
 rw [hal] at hk5 hb5 g2 g3 g4
 obtain ⟨k5, h5⟩ : ∃ k, w.heap.size = k := ⟨_, rfl⟩
 rw [h5] at hk5 l2 l3 l4
 have n25 : ¬ k2 = k5 := by omega
 have n35 : ¬ k3 = k5 := by omega
 have n45 : ¬ k4 = k5 := by omega
 have n52 : ¬ k5 = k2 := by omega
 have n53 : ¬ k5 = k3 := by omega
 have n54 : ¬ k5 = k4 := by omega
 have n32 : ¬ k3 = k2 := fun e => h23 e.symm
 have n42 : ¬ k4 = k2 := fun e => h24 e.symm
 have n43 : ¬ k4 = k3 := fun e => h34 e.symm
 have n23 : ¬ k2 = k3 := h23
 have n24 : ¬ k2 = k4 := h24
 have n34 : ¬ k3 = k4 := h34
 have a0 := hk5.c 0 _ rfl
 have a1 := hk5.c 1 _ rfl
 have af := hk5.fz
 have m0 := g2.c 0 _ rfl
 have m1 := g2.c 1 _ rfl
 have m2 := g2.c 2 _ rfl
 have m3 := g2.c 3 _ rfl
 have m4 := g2.c 4 _ rfl
 have m5 := g2.c 5 _ rfl
 have mf := g2.fz
 have p0 := g3.c 0 _ rfl
 have pf := g3.fz
 have q0 := g4.c 0 _ rfl
 have qf := g4.fz
 refine callsD_of_wpS Tryz.func35 rfl fun c₀ cs hu => ?_
 apply wpS_seq
 apply wpS_region
 simp [wpOpsS, go_sem, recoverD, hu, Tryz.ntmps35, Exit.thenS]
 refine wpS_of_wp ?_
 go_upto_region 7 with fail
 refine wp_region_noPanic ?_
 refine Hd.start (fun v => (v.cell? ⟨k5, 0, none⟩ = some (.int .i64 a) ∧ v.cell? ⟨k5, 1, none⟩ = some (.int .i64 n))) (by kernel_rfl) ⟨a0, a1⟩ (fun hH0 => ?_)
 refine Hd.tk 0 5 hH0 ?_
 refine Hd.tk 1 2 hH0 ?_
 refine Hd.tk 2 6 hH0 ?_
 refine Hd.tk 3 4 hH0 ?_
 refine Hd.tk 4 7 hH0 ?_
 have g2 := Blk.drewN g2 1
 have g3 := Blk.drewN g3 1
 have g4 := Blk.drewN g4 1
 have g5 := Blk.drewN hk5 1
 have hb6 : ∀ B, B ≤ w.heap.size → Below B w (W.drewN 1) := fun B hB => (hb5.mono hB).drew
 clear hal hk5 hb5 a0 a1 hH0
 obtain ⟨V, hV⟩ : ∃ V, W.drewN 1 = V := ⟨_, rfl⟩
 rw [hV] at g2 g3 g4 g5 hb6
 have hV : W.drew = V := hV
 rw [hV]
 have m0 := g2.c 0 _ rfl
 have m1 := g2.c 1 _ rfl
 have m2 := g2.c 2 _ rfl
 have m3 := g2.c 3 _ rfl
 have m4 := g2.c 4 _ rfl
 have m5 := g2.c 5 _ rfl
 have mf := g2.fz
 have p0 := g3.c 0 _ rfl
 have pf := g3.fz
 have q0 := g4.c 0 _ rfl
 have qf := g4.fz
 refine Hd.on 5 (fun K hK => ?_)
 go_simp
 have k2' := blk_set6 (v0 := .string ⟨#[]⟩) (v1 := .slice none 0 0) (v2 := .slice none 0 0) (v3 := .int .i64 0) (v4 := .slice none 0 0) (v5 := .int .i64 0) g2
 have k5' := blk_far6 (k := k2) (v0 := .string ⟨#[]⟩) (v1 := .slice none 0 0) (v2 := .slice none 0 0) (v3 := .int .i64 0) (v4 := .slice none 0 0) (v5 := .int .i64 0) g5 n52
 have k3' := blk_far6 (k := k2) (v0 := .string ⟨#[]⟩) (v1 := .slice none 0 0) (v2 := .slice none 0 0) (v3 := .int .i64 0) (v4 := .slice none 0 0) (v5 := .int .i64 0) g3 n32
 have k4' := blk_far6 (k := k2) (v0 := .string ⟨#[]⟩) (v1 := .slice none 0 0) (v2 := .slice none 0 0) (v3 := .int .i64 0) (v4 := .slice none 0 0) (v5 := .int .i64 0) g4 n42
 have hb7 : ∀ B, B ≤ k2 → B ≤ w.heap.size → Below B w ((((((V.setCell ⟨k2, 0, none⟩ (.string ⟨#[]⟩)).setCell ⟨k2, 1, none⟩ (.slice none 0 0)).setCell ⟨k2, 2, none⟩ (.slice none 0 0)).setCell ⟨k2, 3, none⟩ (.int .i64 0)).setCell ⟨k2, 4, none⟩ (.slice none 0 0)).setCell ⟨k2, 5, none⟩ (.int .i64 0)) := fun B hB hs => ((((((hb6 B hs).setCell (p := ⟨k2, 0, none⟩) hB _).setCell (p := ⟨k2, 1, none⟩) hB _).setCell (p := ⟨k2, 2, none⟩) hB _).setCell (p := ⟨k2, 3, none⟩) hB _).setCell (p := ⟨k2, 4, none⟩) hB _).setCell (p := ⟨k2, 5, none⟩) hB _
 obtain ⟨X, hX⟩ : ∃ X, ((((((V.setCell ⟨k2, 0, none⟩ (.string ⟨#[]⟩)).setCell ⟨k2, 1, none⟩ (.slice none 0 0)).setCell ⟨k2, 2, none⟩ (.slice none 0 0)).setCell ⟨k2, 3, none⟩ (.int .i64 0)).setCell ⟨k2, 4, none⟩ (.slice none 0 0)).setCell ⟨k2, 5, none⟩ (.int .i64 0)) = X := ⟨_, rfl⟩
 rw [hX] at k2' k3' k4' k5' hb7 ⊢
 clear g2 g3 g4 g5 m0 m1 m2 m3 m4 m5 mf p0 pf q0 qf hX hV hb6
 have p0 := k3'.c 0 _ rfl
 have pf := k3'.fz
 have q0 := k4'.c 0 _ rfl
 have qf := k4'.fz
 refine hK.out _ _ ⟨k5'.c 0 _ rfl, k5'.c 1 _ rfl⟩ (fun hH1 => ?_)
 clear hK K
 try simp only [Act.put, Hd.sa, Hd.sz, Hd.ss]
 refine Hd.on 6 (fun K hK => ?_)
 go_simp
 have r5 := k5'.far (p := ⟨k3, 0, none⟩) n53 (.int .i64 a)
 refine hK.out _ _ ⟨r5.c 0 _ rfl, r5.c 1 _ rfl⟩ (fun hH2 => ?_)
 clear hK K
 try simp only [Act.put, Hd.sa, Hd.sz, Hd.ss]
 refine Hd.la 7 (fun K hK => ?_)
 go_simp
 refine hK.out _ _ ?_
 clear hK K
 try simp only [Act.put, Hd.sa, Hd.sz, Hd.ss]
 simp only [NoPanic]
 show bodyPostS _ _ _ _ _ Exit.normal _ _ _
 have hb8 : ∀ B, B ≤ k2 → B ≤ k3 → B ≤ k4 → B ≤ w.heap.size → Below B w ((X.setCell ⟨k3, 0, none⟩ (.int .i64 a)).setCell ⟨k4, 0, none⟩ (.int .i64 n)) := fun B x2 x3 x4 hs => ((hb7 B x2 hs).setCell (p := ⟨k3, 0, none⟩) x3 _).setCell (p := ⟨k4, 0, none⟩) x4 _
 have y2 := (k2'.far (p := ⟨k3, 0, none⟩) n23 (.int .i64 a)).far (p := ⟨k4, 0, none⟩) n24 (.int .i64 n)
 have y3 := (k3'.set_ 0 (.int .i64 a) _ rfl).far (p := ⟨k4, 0, none⟩) n34 (.int .i64 n)
 have y4 := (k4'.far (p := ⟨k3, 0, none⟩) n43 (.int .i64 a)).set_ 0 (.int .i64 n) _ rfl
 have hfin : FixedM k2 k3 k4 a n w ((X.setCell ⟨k3, 0, none⟩ (.int .i64 a)).setCell ⟨k4, 0, none⟩ (.int .i64 n)) := ⟨y2, by simpa using y3, by simpa using y4, hb8⟩
 simp [bodyPostS, results, Tryz.results35]
 exact ⟨rfl, rfl, hfin⟩
end Pa
end Go.Proofs.YtmmgfifpjifjnaaGreatDoor
namespace Go.Proofs.YtmmgfifpjifjnaaGreatDoor
open Go.RowKit
namespace Pa
open Bs Sm Tr
open Lx (Mv)
def Mthd (x : PE Mt) (w : World) (e : Ending) (w' : World) : Prop :=
 Below w.heap.size w w' ∧ match x with
 | .error (p, n) => e = .returned (.tuple #[zmV, .int .i64 p, .int .i64 n])
 | .ok m => ∃ pv tv bv, e = .returned (.tuple #[mtV m pv tv bv, .int .i64 0, .int .i64 0]) ∧ MtAt (New w) w' m pv tv bv
theorem methR_eq (s : Bs.Bytes) : methR s = methC (scanR s).1 (scanR s).2 (fuelP (scanR s).1) := rfl
set_option maxRecDepth 100000 in
set_option maxHeartbeats 3200000 in
theorem Method_any (s : ByteArray) (w : World) (hps : Lx.PlS s) (hpl : PlT (scanR s.data.toList).1) (hs : s.size ≤ 33000) (hv : Lx.ErrVar w) :
  Calls Tryz.prog 19 #[.string s] w (Mthd (methR s.data.toList) w) := by
 have hmf : ∀ (fn : Fn) (first cap : Array Value) (w : World), (Instr.makeFunc fn first cap).run Tryz.prog w = .ok (.func fn first cap) w := fun _ _ _ _ => rfl
 have hL := scan_LOk s.data.toList (by show s.size ≤ 1048576; omega) hpl
 have hlen : (scanR s.data.toList).1.length ≤ s.size + 1 := (scanF_ok (s.data.toList.length + 1) 0 s.data.toList (by omega)).1
 rw [methR_eq]
 obtain ⟨L, hLe⟩ : ∃ L, (scanR s.data.toList).1 = L := ⟨_, rfl⟩
 obtain ⟨bad, hbe⟩ : ∃ b, (scanR s.data.toList).2 = b := ⟨_, rfl⟩
 have HSC := Lib.hid (fun v (hv : Lx.ErrVar v) => scan_any s v hps (by omega) hv)
 rw [hLe, hbe] at HSC
 rw [hLe, hbe]
 rw [hLe] at hL hlen
 obtain ⟨E, hE⟩ : ∃ E, methC L bad (fuelP L) = E := ⟨_, rfl⟩
 have HME := Lib.hid (fun (kb tb tc : Nat) v (hP : Pr kb L tb tc bad 0 0 v) => method_any hL (by omega) hP (fuelP L) (by unfold fuelP; omega))
 rw [hE] at HME
 rw [hE]
 have hvl := Lx.ErrVar_lt hv
 have hbA := alloc_bel w (.cells #[.string ⟨#[]⟩, .slice none 0 0, .slice none 0 0, .int .i64 0, .slice none 0 0, .int .i64 0] 33)
 have hK2 := Blk.made (T := 33) (cs := #[.string ⟨#[]⟩, .slice none 0 0, .slice none 0 0, .int .i64 0, .slice none 0 0, .int .i64 0]) w
 have hzA : (w.alloc (.cells #[.string ⟨#[]⟩, .slice none 0 0, .slice none 0 0, .int .i64 0, .slice none 0 0, .int .i64 0] 33)).heap.size = w.heap.size + 1 := by simp
 obtain ⟨W1, halA⟩ : ∃ W, w.alloc (.cells #[.string ⟨#[]⟩, .slice none 0 0, .slice none 0 0, .int .i64 0, .slice none 0 0, .int .i64 0] 33) = W := ⟨_, rfl⟩
 rw [halA] at hbA hK2 hzA
 have hbB := hbA.trans ((alloc_bel W1 (.cells #[.int .i64 0] 3)).mono (by omega))
 have hK3 := Blk.made (T := 3) (cs := #[.int .i64 0]) W1
 have hzB : (W1.alloc (.cells #[.int .i64 0] 3)).heap.size = W1.heap.size + 1 := by simp
 have hK2 := hK2.alloc (.cells #[.int .i64 0] 3)
 obtain ⟨W2, halB⟩ : ∃ W, W1.alloc (.cells #[.int .i64 0] 3) = W := ⟨_, rfl⟩
 rw [halB] at hbB hK2 hK3 hzB
 have hbC := hbB.trans ((alloc_bel W2 (.cells #[.int .i64 0] 38)).mono (by omega))
 have hK4 := Blk.made (T := 38) (cs := #[.int .i64 0]) W2
 have hzC : (W2.alloc (.cells #[.int .i64 0] 38)).heap.size = W2.heap.size + 1 := by simp
 have hK2 := hK2.alloc (.cells #[.int .i64 0] 38)
 have hK3 := hK3.alloc (.cells #[.int .i64 0] 38)
 obtain ⟨W3, halC⟩ : ∃ W, W2.alloc (.cells #[.int .i64 0] 38) = W := ⟨_, rfl⟩
 rw [halC] at hbC hK2 hK3 hK4 hzC
 rw [hzA] at hzB hK3
 rw [hzB] at hzC hK4
 have hB := hbC
 have HV3 := Lib.hid (hv.below hB)
 have HK2 := Lib.hid hK2
 have HK3 := Lib.hid hK3
 have HK4 := Lib.hid hK4
 have HB := Lib.hid hB
 clear hbA hbB hbC hK2 hK3 hK4 hB hL hlen hE hLe hbe hv
 go_enter_defers Tryz.func19, Tryz.ntmps19
 go_wp2_with fail
 refine (HSC.out _ HV3.out).mono ?_; rintro e w2 ⟨kb, tb, tc, rfl, hk, hP, hb⟩
 have hs2 := hb.size
 have hK2 := HK2.out.below hb (by omega)
 have hK3 := HK3.out.below hb (by omega)
 have hK4 := HK4.out.below hb (by omega)
 have hB2 := HB.out.trans (hb.mono (by omega))
 have HMM := HME.out kb tb tc w2 hP
 have hHM := Lib.hid HMM
 clear HMM
 go_wp2_with fail
 refine hHM.out.mono ?_; intro e w3 ht
 cases E with
 | error y =>
  obtain ⟨p, n⟩ := y
  obtain ⟨rfl, hm⟩ := ht
  unfold fltP
  have hK2 := (hm.block _ hK2.lt (by omega)).trans hK2
  have hK3 := (hm.block _ hK3.lt (by omega)).trans hK3
  have hK4 := (hm.block _ hK4.lt (by omega)).trans hK4
  have hB3 := hB2.trans (hm.new_below (by omega) (by omega))
  have hpl : PF = 89 := rfl
  clear HSC HME hHM HK2 HK3 HK4 HV3 HB halA halB halC hzA hzB hzC hP
  go_wp2_with fail
  refine leaves_cons (f := 35) (args := #[.pointer (some ⟨w.heap.size, 0, none⟩), .pointer (some ⟨w.heap.size + 1, 0, none⟩), .pointer (some ⟨w.heap.size + 1 + 1, 0, none⟩)]) (by simp) (by simp [go_sem]) ?_
  refine (mcatch_fault w.heap.size (w.heap.size + 1) (w.heap.size + 1 + 1) p n w3 hK2 hK3 hK4 (by omega) (by omega) (by omega)).mono ?_
  rintro e u' w4 ⟨rfl, rfl, h2, h3, h4, hb⟩
  have c0 := h2.c 0 _ rfl
  have c1 := h2.c 1 _ rfl
  have c2 := h2.c 2 _ rfl
  have c3 := h2.c 3 _ rfl
  have c4 := h2.c 4 _ rfl
  have c5 := h2.c 5 _ rfl
  have d0 := h3.c 0 _ rfl
  have e0 := h4.c 0 _ rfl
  have hbe := hB3.trans (hb w.heap.size (Nat.le_refl _) (by omega) (by omega) hB3.size)
  clear h2 h3 h4 hb hK2 hK3 hK4 hB3 hB2
  simp [Leaves, settle, results, Tryz.results19, go_sem, c0, c1, c2, c3, c4, c5, d0, e0]
  exact ⟨hbe, rfl⟩
 | ok m =>
  obtain ⟨⟨pv, tv, bv, rfl, hmt⟩, hm⟩ := ht
  obtain ⟨pa, pc, rfl, -, -⟩ := hmt.params.form
  obtain ⟨ta, tc, rfl, -, -⟩ := hmt.temps.form
  obtain ⟨ba, bc, rfl, -, -⟩ := hmt.body.form
  unfold mtV
  have hK2 := (hm.block _ hK2.lt (by omega)).trans hK2
  have hK3 := (hm.block _ hK3.lt (by omega)).trans hK3
  have hK4 := (hm.block _ hK4.lt (by omega)).trans hK4
  have hB3 := hB2.trans (hm.new_below (by omega) (by omega))
  have n1 : ¬ w.heap.size + 1 = w.heap.size := by omega
  have n2 : ¬ w.heap.size + 1 + 1 = w.heap.size := by omega
  have n3 : ¬ w.heap.size + 1 + 1 = w.heap.size + 1 := by omega
  have n4 : ¬ w.heap.size + 1 = w.heap.size + 1 + 1 := by omega
  have m0 := Blk.c hK2 0 _ rfl
  have m1 := Blk.c hK2 1 _ rfl
  have m2 := Blk.c hK2 2 _ rfl
  have m3 := Blk.c hK2 3 _ rfl
  have m4 := Blk.c hK2 4 _ rfl
  have m5 := Blk.c hK2 5 _ rfl
  have mf := Blk.fz hK2
  have hY2 := blk_set6 (v0 := .string ⟨m.name.toArray⟩) (v1 := .slice pa m.params.length pc) (v2 := .slice ta m.temps.length tc) (v3 := .int .i64 m.prim) (v4 := .slice ba m.body.length bc) (v5 := .int .i64 m.at_) hK2
  have hY3 := blk_far6 (k := w.heap.size) (v0 := .string ⟨m.name.toArray⟩) (v1 := .slice pa m.params.length pc) (v2 := .slice ta m.temps.length tc) (v3 := .int .i64 m.prim) (v4 := .slice ba m.body.length bc) (v5 := .int .i64 m.at_) hK3 n1
  have hY4 := blk_far6 (k := w.heap.size) (v0 := .string ⟨m.name.toArray⟩) (v1 := .slice pa m.params.length pc) (v2 := .slice ta m.temps.length tc) (v3 := .int .i64 m.prim) (v4 := .slice ba m.body.length bc) (v5 := .int .i64 m.at_) hK4 n2
  have hY5 := ((((((hB3.setCell (p := ⟨w.heap.size, 0, none⟩) (Nat.le_refl _) (.string ⟨m.name.toArray⟩)).setCell (p := ⟨w.heap.size, 1, none⟩) (Nat.le_refl _) (.slice pa m.params.length pc)).setCell (p := ⟨w.heap.size, 2, none⟩) (Nat.le_refl _) (.slice ta m.temps.length tc)).setCell (p := ⟨w.heap.size, 3, none⟩) (Nat.le_refl _) (.int .i64 m.prim)).setCell (p := ⟨w.heap.size, 4, none⟩) (Nat.le_refl _) (.slice ba m.body.length bc)).setCell (p := ⟨w.heap.size, 5, none⟩) (Nat.le_refl _) (.int .i64 m.at_))
  have hY6 := (hmt.kp (kp_set6 (k := w.heap.size) (v0 := .string ⟨m.name.toArray⟩) (v1 := .slice pa m.params.length pc) (v2 := .slice ta m.temps.length tc) (v3 := .int .i64 m.prim) (v4 := .slice ba m.body.length bc) (v5 := .int .i64 m.at_) (by unfold New; omega)))
  obtain ⟨W6, hW6⟩ : ∃ W, (((((w3.setCell ⟨w.heap.size, 0, none⟩ (.string ⟨m.name.toArray⟩)).setCell ⟨w.heap.size, 1, none⟩ (.slice pa m.params.length pc)).setCell ⟨w.heap.size, 2, none⟩ (.slice ta m.temps.length tc)).setCell ⟨w.heap.size, 3, none⟩ (.int .i64 m.prim)).setCell ⟨w.heap.size, 4, none⟩ (.slice ba m.body.length bc)).setCell ⟨w.heap.size, 5, none⟩ (.int .i64 m.at_) = W := ⟨_, rfl⟩
  rw [hW6] at hY2 hY3 hY4 hY5 hY6
  have q0 := Blk.c hY3 0 _ rfl
  have qf := Blk.fz hY3
  have r0 := Blk.c hY4 0 _ rfl
  have rf := Blk.fz hY4
  clear HSC HME hHM HK2 HK3 HK4 HV3 HB halA halB halC hzA hzB hP hK2 hK3 hK4
  go_wp2_with fail
  have hZ2 := (hY2.far (p := ⟨w.heap.size + 1, 0, none⟩) (Ne.symm n1) (.int .i64 0)).far (p := ⟨w.heap.size + 1 + 1, 0, none⟩) (Ne.symm n2) (.int .i64 0)
  have hZ3 := (hY3.set_ 0 (.int .i64 0) _ rfl).far (p := ⟨w.heap.size + 1 + 1, 0, none⟩) n4 (.int .i64 0)
  have hZ4 := (hY4.far (p := ⟨w.heap.size + 1, 0, none⟩) n3 (.int .i64 0)).set_ 0 (.int .i64 0) _ rfl
  have hZ5 := (hY5.setCell (p := ⟨w.heap.size + 1, 0, none⟩) (by show w.heap.size ≤ w.heap.size + 1; omega) (.int .i64 0)).setCell (p := ⟨w.heap.size + 1 + 1, 0, none⟩) (by show w.heap.size ≤ w.heap.size + 1 + 1; omega) (.int .i64 0)
  have hZ6 := (((hY6.kp (kp_set (k := w.heap.size + 1) 0 (by unfold New; omega) (.int .i64 0))).kp (kp_set (k := w.heap.size + 1 + 1) 0 (by unfold New; omega) (.int .i64 0)))).mono (S' := New w) (fun j hj _ => by unfold New at *; omega)
  obtain ⟨W8, hW8⟩ : ∃ W, (W6.setCell ⟨w.heap.size + 1, 0, none⟩ (.int .i64 0)).setCell ⟨w.heap.size + 1 + 1, 0, none⟩ (.int .i64 0) = W := ⟨_, rfl⟩
  rw [hW8] at hZ2 hZ3 hZ4 hZ5 hZ6 ⊢
  clear hY2 hY3 hY4 hY5 hY6 hW8 hW6
  refine leaves_cons (f := 35) (args := #[.pointer (some ⟨w.heap.size, 0, none⟩), .pointer (some ⟨w.heap.size + 1, 0, none⟩), .pointer (some ⟨w.heap.size + 1 + 1, 0, none⟩)]) (by simp) (by simp [go_sem]) ?_
  refine (mcatch_idle w.heap.size (w.heap.size + 1) (w.heap.size + 1 + 1) _).mono ?_
  rintro e u' w4 ⟨rfl, rfl, rfl⟩
  have c0 := hZ2.c 0 _ rfl
  have c1 := hZ2.c 1 _ rfl
  have c2 := hZ2.c 2 _ rfl
  have c3 := hZ2.c 3 _ rfl
  have c4 := hZ2.c 4 _ rfl
  have c5 := hZ2.c 5 _ rfl
  have d0 := hZ3.c 0 (.int .i64 0) (by simp)
  have e0 := hZ4.c 0 (.int .i64 0) (by simp)
  clear hZ2 hZ3 hZ4
  simp [Leaves, settle, results, Tryz.results19, go_sem, c0, c1, c2, c3, c4, c5, d0, e0]
  exact ⟨hZ5, _, _, _, rfl, hZ6⟩
end Pa
end Go.Proofs.YtmmgfifpjifjnaaGreatDoor
