/- Package scope, the walk, 15: Resolve's deferred closure (wip/gen/gen_rvwf.py turns it from Method's). · Package scope, the walk, 16: Resolve (wip/gen/gen_rvwg.py prints this). · Chapter 13: few. -/
import Derived.Test.YtmmgfifpjifjnaaGreatDoorLxWb
import Derived.Test.YtmmgfifpjifjnaaGreatDoorRvE
import Derived.Test.YtmmgfifpjifjnaaGreatDoorTrC
set_option linter.unusedVariables false
namespace Go.Proofs.YtmmgfifpjifjnaaGreatDoor
open Go.RowKit
namespace Rv
open Bs Sm Tr
theorem blk_set5 {T k : Nat} {a0 a1 a2 a3 a4 v0 v1 v2 v3 v4 : Value} {w : World} (h : Blk T k #[a0, a1, a2, a3, a4] w) : Blk T k #[v0, v1, v2, v3, v4] (((((w.setCell ⟨k, 0, none⟩ v0).setCell ⟨k, 1, none⟩ v1).setCell ⟨k, 2, none⟩ v2).setCell ⟨k, 3, none⟩ v3).setCell ⟨k, 4, none⟩ v4) :=
 ((((h.set_ 0 v0 _ rfl).set_ 1 v1 _ rfl).set_ 2 v2 _ rfl).set_ 3 v3 _ rfl).set_ 4 v4 _ rfl
theorem blk_far5 {T j k : Nat} {cs : Array Value} {v0 v1 v2 v3 v4 : Value} {w : World} (h : Blk T j cs w) (hne : j ≠ k) : Blk T j cs (((((w.setCell ⟨k, 0, none⟩ v0).setCell ⟨k, 1, none⟩ v1).setCell ⟨k, 2, none⟩ v2).setCell ⟨k, 3, none⟩ v3).setCell ⟨k, 4, none⟩ v4) :=
 ((((h.far (p := ⟨k, 0, none⟩) hne v0).far (p := ⟨k, 1, none⟩) hne v1).far (p := ⟨k, 2, none⟩) hne v2).far (p := ⟨k, 3, none⟩) hne v3).far (p := ⟨k, 4, none⟩) hne v4
def zcV : Value := .agg #[.string ⟨#[]⟩, .int .i64 0, .int .i64 0, .int .i64 0, .slice none 0 0]
set_option maxRecDepth 100000 in
set_option maxHeartbeats 1600000 in
theorem rcatch_idle (k2 k3 k4 : Nat) (w : World) :
  CallsD Tryz.prog 23 #[.pointer (some ⟨k2, 0, none⟩), .pointer (some ⟨k3, 0, none⟩), .pointer (some ⟨k4, 0, none⟩)] .returning w (Lx.Closed .returning fun w' => w = w') := by
 refine callsD_of_wpS Tryz.func23 rfl fun c₀ cs hu => ?_
 apply wpS_seq
 apply wpS_region
 simp [wpOpsS, go_sem, recoverD, hu, Tryz.ntmps23, Exit.thenS]
 refine wpS_of_wp ?_
 go_wp2_with fail
 cases c₀
 simp_all [bodyPostS, results, Tryz.results23, Lx.Closed]
def FixedR (k2 k3 k4 : Nat) (a n : Int) (w w' : World) : Prop := Blk 37 k2 #[.string ⟨#[]⟩, .int .i64 0, .int .i64 0, .int .i64 0, .slice none 0 0] w' ∧ Blk 3 k3 #[.int .i64 a] w' ∧ Blk 38 k4 #[.int .i64 n] w' ∧ ∀ B, B ≤ k2 → B ≤ k3 → B ≤ k4 → B ≤ w.heap.size → Below B w w'
set_option maxRecDepth 100000 in
set_option maxHeartbeats 3200000 in
theorem rcatch_fault (k2 k3 k4 : Nat) (a n : Int) (w : World) (h2 : Blk 37 k2 #[.string ⟨#[]⟩, .int .i64 0, .int .i64 0, .int .i64 0, .slice none 0 0] w) (h3 : Blk 3 k3 #[.int .i64 0] w) (h4 : Blk 38 k4 #[.int .i64 0] w) (h23 : k2 ≠ k3) (h24 : k2 ≠ k4) (h34 : k3 ≠ k4) :
  CallsD Tryz.prog 23 #[.pointer (some ⟨k2, 0, none⟩), .pointer (some ⟨k3, 0, none⟩), .pointer (some ⟨k4, 0, none⟩)] (.panicking [{ v := .iface 66 (.agg #[.int .i64 a, .int .i64 n]), recovered := false }]) w
   (Lx.Closed (.panicking [{ v := .iface 66 (.agg #[.int .i64 a, .int .i64 n]), recovered := true }]) (FixedR k2 k3 k4 a n w)) := by
 have l2 := h2.lt
 have l3 := h3.lt
 have l4 := h4.lt
 have hta : ∀ v : World, (Instr.typeAssert (.iface 66 (.agg #[.int .i64 a, .int .i64 n])) 20 66 true).run Tryz.prog v = .ok (.tuple #[.agg #[.int .i64 a, .int .i64 n], .bool true]) v := fun _ => by kernel_rfl
 have hk5 := Blk.made (T := 66) (cs := #[.int .i64 a, .int .i64 n]) w
 have hb5 := alloc_bel w (.cells #[.int .i64 a, .int .i64 n] 66)
 have g2 := h2.alloc (.cells #[.int .i64 a, .int .i64 n] 66)
 have g3 := h3.alloc (.cells #[.int .i64 a, .int .i64 n] 66)
 have g4 := h4.alloc (.cells #[.int .i64 a, .int .i64 n] 66)
 obtain ⟨W, hal⟩ : ∃ W, w.alloc (.cells #[.int .i64 a, .int .i64 n] 66) = W := ⟨_, rfl⟩
 rw [hal] at hk5 hb5 g2 g3 g4
 obtain ⟨k5, h5⟩ : ∃ k, w.heap.size = k := ⟨_, rfl⟩
 rw [h5] at hk5 l2 l3 l4
 have n25 : ¬ k2 = k5 := by omega
 have n35 : ¬ k3 = k5 := by omega
 have n45 : ¬ k4 = k5 := by omega
 have n52 : ¬ k5 = k2 := by omega
 have n53 : ¬ k5 = k3 := by omega
 have n54 : ¬ k5 = k4 := by omega
 have n32 : ¬ k3 = k2 := fun e => h23 e.symm
 have n42 : ¬ k4 = k2 := fun e => h24 e.symm
 have n43 : ¬ k4 = k3 := fun e => h34 e.symm
 have n23 : ¬ k2 = k3 := h23
 have n24 : ¬ k2 = k4 := h24
 have n34 : ¬ k3 = k4 := h34
 have a0 := hk5.c 0 _ rfl
 have a1 := hk5.c 1 _ rfl
 have af := hk5.fz
 have m0 := g2.c 0 _ rfl
 have m1 := g2.c 1 _ rfl
 have m2 := g2.c 2 _ rfl
 have m3 := g2.c 3 _ rfl
 have m4 := g2.c 4 _ rfl
 have mf := g2.fz
 have p0 := g3.c 0 _ rfl
 have pf := g3.fz
 have q0 := g4.c 0 _ rfl
 have qf := g4.fz
 refine callsD_of_wpS Tryz.func23 rfl fun c₀ cs hu => ?_
 apply wpS_seq
 apply wpS_region
 simp [wpOpsS, go_sem, recoverD, hu, Tryz.ntmps23, Exit.thenS]
 refine wpS_of_wp ?_
 go_upto_region 7 with fail
 refine wp_region_noPanic ?_
 refine Hd.start (fun v => (v.cell? ⟨k5, 0, none⟩ = some (.int .i64 a) ∧ v.cell? ⟨k5, 1, none⟩ = some (.int .i64 n))) (by kernel_rfl) ⟨a0, a1⟩ (fun hH0 => ?_)
 refine Hd.tk 0 5 hH0 ?_
 refine Hd.tk 1 2 hH0 ?_
 refine Hd.tk 2 6 hH0 ?_
 refine Hd.tk 3 4 hH0 ?_
 refine Hd.tk 4 7 hH0 ?_
 have g2 := Blk.drewN g2 1
 have g3 := Blk.drewN g3 1
 have g4 := Blk.drewN g4 1
 have g5 := Blk.drewN hk5 1
 have hb6 : ∀ B, B ≤ w.heap.size → Below B w (W.drewN 1) := fun B hB => (hb5.mono hB).drew
 clear hal hk5 hb5 a0 a1 hH0
 obtain ⟨V, hV⟩ : ∃ V, W.drewN 1 = V := ⟨_, rfl⟩
 rw [hV] at g2 g3 g4 g5 hb6
 have hV : W.drew = V := hV
 rw [hV]
 have m0 := g2.c 0 _ rfl
 have m1 := g2.c 1 _ rfl
 have m2 := g2.c 2 _ rfl
 have m3 := g2.c 3 _ rfl
 have m4 := g2.c 4 _ rfl
 have mf := g2.fz
 have p0 := g3.c 0 _ rfl
 have pf := g3.fz
 have q0 := g4.c 0 _ rfl
 have qf := g4.fz
 refine Hd.on 5 (fun K hK => ?_)
 go_simp
 have k2' := blk_set5 (v0 := .string ⟨#[]⟩) (v1 := .int .i64 0) (v2 := .int .i64 0) (v3 := .int .i64 0) (v4 := .slice none 0 0) g2
 have k5' := blk_far5 (k := k2) (v0 := .string ⟨#[]⟩) (v1 := .int .i64 0) (v2 := .int .i64 0) (v3 := .int .i64 0) (v4 := .slice none 0 0) g5 n52
 have k3' := blk_far5 (k := k2) (v0 := .string ⟨#[]⟩) (v1 := .int .i64 0) (v2 := .int .i64 0) (v3 := .int .i64 0) (v4 := .slice none 0 0) g3 n32
 have k4' := blk_far5 (k := k2) (v0 := .string ⟨#[]⟩) (v1 := .int .i64 0) (v2 := .int .i64 0) (v3 := .int .i64 0) (v4 := .slice none 0 0) g4 n42
 have hb7 : ∀ B, B ≤ k2 → B ≤ w.heap.size → Below B w (((((V.setCell ⟨k2, 0, none⟩ (.string ⟨#[]⟩)).setCell ⟨k2, 1, none⟩ (.int .i64 0)).setCell ⟨k2, 2, none⟩ (.int .i64 0)).setCell ⟨k2, 3, none⟩ (.int .i64 0)).setCell ⟨k2, 4, none⟩ (.slice none 0 0)) := fun B hB hs => (((((hb6 B hs).setCell (p := ⟨k2, 0, none⟩) hB _).setCell (p := ⟨k2, 1, none⟩) hB _).setCell (p := ⟨k2, 2, none⟩) hB _).setCell (p := ⟨k2, 3, none⟩) hB _).setCell (p := ⟨k2, 4, none⟩) hB _
 obtain ⟨X, hX⟩ : ∃ X, (((((V.setCell ⟨k2, 0, none⟩ (.string ⟨#[]⟩)).setCell ⟨k2, 1, none⟩ (.int .i64 0)).setCell ⟨k2, 2, none⟩ (.int .i64 0)).setCell ⟨k2, 3, none⟩ (.int .i64 0)).setCell ⟨k2, 4, none⟩ (.slice none 0 0)) = X := ⟨_, rfl⟩
 rw [hX] at k2' k3' k4' k5' hb7 ⊢
 clear g2 g3 g4 g5 m0 m1 m2 m3 m4 mf p0 pf q0 qf hX hV hb6
 have p0 := k3'.c 0 _ rfl
 have pf := k3'.fz
 have q0 := k4'.c 0 _ rfl
 have qf := k4'.fz
 refine hK.out _ _ ⟨k5'.c 0 _ rfl, k5'.c 1 _ rfl⟩ (fun hH1 => ?_)
 clear hK K
 try simp only [Act.put, Hd.sa, Hd.sz, Hd.ss]
 refine Hd.on 6 (fun K hK => ?_)
 go_simp
 have r5 := k5'.far (p := ⟨k3, 0, none⟩) n53 (.int .i64 a)
 refine hK.out _ _ ⟨r5.c 0 _ rfl, r5.c 1 _ rfl⟩ (fun hH2 => ?_)
 clear hK K
 try simp only [Act.put, Hd.sa, Hd.sz, Hd.ss]
 refine Hd.la 7 (fun K hK => ?_)
 go_simp
 refine hK.out _ _ ?_
 clear hK K
 try simp only [Act.put, Hd.sa, Hd.sz, Hd.ss]
 simp only [NoPanic]
 show bodyPostS _ _ _ _ _ Exit.normal _ _ _
 have hb8 : ∀ B, B ≤ k2 → B ≤ k3 → B ≤ k4 → B ≤ w.heap.size → Below B w ((X.setCell ⟨k3, 0, none⟩ (.int .i64 a)).setCell ⟨k4, 0, none⟩ (.int .i64 n)) := fun B x2 x3 x4 hs => ((hb7 B x2 hs).setCell (p := ⟨k3, 0, none⟩) x3 _).setCell (p := ⟨k4, 0, none⟩) x4 _
 have y2 := (k2'.far (p := ⟨k3, 0, none⟩) n23 (.int .i64 a)).far (p := ⟨k4, 0, none⟩) n24 (.int .i64 n)
 have y3 := (k3'.set_ 0 (.int .i64 a) _ rfl).far (p := ⟨k4, 0, none⟩) n34 (.int .i64 n)
 have y4 := (k4'.far (p := ⟨k3, 0, none⟩) n43 (.int .i64 a)).set_ 0 (.int .i64 n) _ rfl
 have hfin : FixedR k2 k3 k4 a n w ((X.setCell ⟨k3, 0, none⟩ (.int .i64 a)).setCell ⟨k4, 0, none⟩ (.int .i64 n)) := ⟨y2, by simpa using y3, by simpa using y4, hb8⟩
 simp [bodyPostS, results, Tryz.results23]
 exact ⟨rfl, rfl, hfin⟩
end Rv
end Go.Proofs.YtmmgfifpjifjnaaGreatDoor
namespace Go.Proofs.YtmmgfifpjifjnaaGreatDoor
open Go.RowKit
namespace Rv
open Bs Sm Tr
def cdV (c : Cd) (bv : Value) : Value := .agg #[.string ⟨c.name.toArray⟩, .int .i64 c.args, .int .i64 c.slots, .int .i64 c.prim, bv]
def ResO (x : RE Cd) (w : World) (e : Ending) (w' : World) : Prop :=
 Below w.heap.size w w' ∧ match x with
 | .error (p, n) => e = .returned (.tuple #[zcV, .int .i64 p, .int .i64 n])
 | .ok c => ∃ bv, e = .returned (.tuple #[cdV c bv, .int .i64 0, .int .i64 0]) ∧ Its (fun j => w.heap.size ≤ j) w' bv c.body
theorem leaves_congr {P : Program} {fn : Func} {t t' : Array Value} {R : Ending → World → Prop} (h : ∀ w, (results fn t).run P w = (results fn t').run P w) : ∀ (ds : List Deferred) (u : FrameMode) (w : World), Leaves P fn t R ds u w → Leaves P fn t' R ds u w
 | [], .returning, w, hl => by
  obtain ⟨v, h1, h2⟩ := hl
  exact ⟨v, (h w).symm.trans h1, h2⟩
 | [], .panicking chain, w, hl => hl
 | [], .run, w, hl => hl
 | d :: ds, u, w, hl => by
  obtain ⟨h0, fv, cap, f, args, h1, h2, h3⟩ := hl
  refine ⟨h0, fv, cap, f, args, h1, h2, h3.mono ?_⟩
  intro e u' w' he
  cases e with
  | returned v => exact leaves_congr h ds _ _ he
  | panicked c => exact leaves_congr h ds _ _ he
  | outgrown => exact he
theorem res_put (t : Array Value) (d : Nat) (v : Value) (h6 : d ≠ 6) (h7 : d ≠ 7) (h8 : d ≠ 8) : results Tryz.f10 (t.setIfInBounds d v) = results Tryz.f10 t := by
 simp [results, Tryz.results10, Tryz.f10, Array.getElem?_setIfInBounds, h6, h7, h8]
theorem kp_one {S : Nat → Prop} {k : Nat} {w : World} (hk : ¬ S k) (i : Nat) (u : Value) : Kp S w (w.setCell ⟨k, i, none⟩ u) := ((Mv2.refl k none w).set_ i u).kp hk (fun _ h => by cases h)
theorem its_set5 {S : Nat → Prop} {k : Nat} {w : World} {v v0 v1 v2 v3 v4 : Value} {l : List It} (h : Its S w v l) (hk : ¬ S k) : Its S (((((w.setCell ⟨k, 0, none⟩ v0).setCell ⟨k, 1, none⟩ v1).setCell ⟨k, 2, none⟩ v2).setCell ⟨k, 3, none⟩ v3).setCell ⟨k, 4, none⟩ v4) v l :=
 ((((h.kp (kp_one hk 0 v0)).kp (kp_one hk 1 v1)).kp (kp_one hk 2 v2)).kp (kp_one hk 3 v3)).kp (kp_one hk 4 v4)
theorem bel_set5 {B k : Nat} {w w0 : World} {v0 v1 v2 v3 v4 : Value} (h : Below B w0 w) (hk : B ≤ k) : Below B w0 (((((w.setCell ⟨k, 0, none⟩ v0).setCell ⟨k, 1, none⟩ v1).setCell ⟨k, 2, none⟩ v2).setCell ⟨k, 3, none⟩ v3).setCell ⟨k, 4, none⟩ v4) :=
 ((((h.setCell (p := ⟨k, 0, none⟩) hk v0).setCell (p := ⟨k, 1, none⟩) hk v1).setCell (p := ⟨k, 2, none⟩) hk v2).setCell (p := ⟨k, 3, none⟩) hk v3).setCell (p := ⟨k, 4, none⟩) hk v4
def okD (d : Option Nat) : Bool := d != some 6 && d != some 7 && d != some 8
def PanicPut (Q : Exit → Act → World → Prop) : Prop := ∀ c (a : Act) (d : Option Nat) (v : Value) (w : World), okD d = true → Q (.panic c) (a.put d v) w → Q (.panic c) a w
theorem region_pq {P : Program} {Q : Exit → Act → World → Prop} {c : Code} {a : Act} {w : World} (hq : PanicPut Q) (h : PanicPut Q → c.wp P Q a w) : c.wp P Q a w := h hq
theorem put_leaves {R : Ending → World → Prop} {c : List PanicEntry} {a : Act} {d : Option Nat} {v : Value} {w : World} (hd : okD d = true) (h : Leaves Tryz.prog Tryz.f10 (a.put d v).tmps R (a.put d v).defers (.panicking c) w) : Leaves Tryz.prog Tryz.f10 a.tmps R a.defers (.panicking c) w := by
 cases d with
 | none => exact h
 | some d =>
  unfold okD at hd
  simp only [Bool.and_eq_true, bne_iff_ne, ne_eq, Option.some.injEq] at hd
  exact leaves_congr (fun _ => by rw [show (a.put (some d) v).tmps = a.tmps.setIfInBounds d v from rfl, res_put _ _ _ hd.1.1 hd.1.2 hd.2]) _ _ _ h
section
set_option maxRecDepth 100000 in
set_option maxHeartbeats 3200000 in
theorem Resolve_any (m : Mt) (pv tv bv fv gv : Value) (F G : List Bytes) (w : World) (hc : cntL m.body ≤ 100000) (hin : ∀ x ∈ allL m.body, InI x) (hm : MtAt (fun _ => True) w m pv tv bv) (hf : Rd (fun _ => True) strV w fv F) (hg : Rd (fun _ => True) strV w gv G) :
  Calls Tryz.prog 10 #[mtV m pv tv bv, fv, gv] w (ResO (resR F G m) w) := by
 have hmf : ∀ (fn : Fn) (first cap : Array Value) (w : World), (Instr.makeFunc fn first cap).run Tryz.prog w = .ok (.func fn first cap) w := fun _ _ _ _ => rfl
 have HCK := Lib.hid (fun w' (hb : Below w.heap.size w w') => Check_any m pv tv bv hc hin w' (hm.bel hb))
 obtain ⟨pa, pc, rfl, -, -⟩ := hm.params.form
 obtain ⟨ta, tc, rfl, -, -⟩ := hm.temps.form
 obtain ⟨ba, bc, rfl, -, -⟩ := hm.body.form
 obtain ⟨fa, fc, rfl, -, -⟩ := hf.form
 obtain ⟨ga, gc, rfl, -, -⟩ := hg.form
 obtain ⟨R, hR⟩ : ∃ R, resR F G m = R := ⟨_, rfl⟩
 rw [hR]
 unfold resR at hR
 have hOK : checkM m = 0 → OkL m.body := fun h => (check_ok h).1
 obtain ⟨ck, hck⟩ : ∃ k, checkM m = k := ⟨_, rfl⟩
 rw [hck] at hR HCK hOK
 unfold mtV at HCK ⊢
 have hbA := alloc_bel w (.cells #[.string ⟨m.name.toArray⟩, .slice pa m.params.length pc, .slice ta m.temps.length tc, .int .i64 m.prim, .slice ba m.body.length bc, .int .i64 m.at_] 33)
 have hK1 := Blk.made (T := 33) (cs := #[.string ⟨m.name.toArray⟩, .slice pa m.params.length pc, .slice ta m.temps.length tc, .int .i64 m.prim, .slice ba m.body.length bc, .int .i64 m.at_]) w
 have hzA : (w.alloc (.cells #[.string ⟨m.name.toArray⟩, .slice pa m.params.length pc, .slice ta m.temps.length tc, .int .i64 m.prim, .slice ba m.body.length bc, .int .i64 m.at_] 33)).heap.size = w.heap.size + 1 := by simp
 obtain ⟨W1, halA⟩ : ∃ W, w.alloc (.cells #[.string ⟨m.name.toArray⟩, .slice pa m.params.length pc, .slice ta m.temps.length tc, .int .i64 m.prim, .slice ba m.body.length bc, .int .i64 m.at_] 33) = W := ⟨_, rfl⟩
 rw [halA] at hbA hzA hK1
 have hbB := (hbA).trans ((alloc_bel W1 (.cells #[.string ⟨#[]⟩, .int .i64 0, .int .i64 0, .int .i64 0, .slice none 0 0] 37)).mono (by omega))
 have hK2 := Blk.made (T := 37) (cs := #[.string ⟨#[]⟩, .int .i64 0, .int .i64 0, .int .i64 0, .slice none 0 0]) W1
 have hK1 := hK1.alloc (.cells #[.string ⟨#[]⟩, .int .i64 0, .int .i64 0, .int .i64 0, .slice none 0 0] 37)
 have hzB : (W1.alloc (.cells #[.string ⟨#[]⟩, .int .i64 0, .int .i64 0, .int .i64 0, .slice none 0 0] 37)).heap.size = W1.heap.size + 1 := by simp
 obtain ⟨W2, halB⟩ : ∃ W, W1.alloc (.cells #[.string ⟨#[]⟩, .int .i64 0, .int .i64 0, .int .i64 0, .slice none 0 0] 37) = W := ⟨_, rfl⟩
 rw [halB] at hbB hzB hK1 hK2
 rw [hzA] at hzB hK2
 have hbC := (hbB).trans ((alloc_bel W2 (.cells #[.int .i64 0] 3)).mono (by omega))
 have hK3 := Blk.made (T := 3) (cs := #[.int .i64 0]) W2
 have hK1 := hK1.alloc (.cells #[.int .i64 0] 3)
 have hK2 := hK2.alloc (.cells #[.int .i64 0] 3)
 have hzC : (W2.alloc (.cells #[.int .i64 0] 3)).heap.size = W2.heap.size + 1 := by simp
 obtain ⟨W3, halC⟩ : ∃ W, W2.alloc (.cells #[.int .i64 0] 3) = W := ⟨_, rfl⟩
 rw [halC] at hbC hzC hK1 hK2 hK3
 rw [hzB] at hzC hK3
 have hbD := (hbC).trans ((alloc_bel W3 (.cells #[.int .i64 0] 38)).mono (by omega))
 have hK4 := Blk.made (T := 38) (cs := #[.int .i64 0]) W3
 have hK1 := hK1.alloc (.cells #[.int .i64 0] 38)
 have hK2 := hK2.alloc (.cells #[.int .i64 0] 38)
 have hK3 := hK3.alloc (.cells #[.int .i64 0] 38)
 have hzD : (W3.alloc (.cells #[.int .i64 0] 38)).heap.size = W3.heap.size + 1 := by simp
 obtain ⟨W4, halD⟩ : ∃ W, W3.alloc (.cells #[.int .i64 0] 38) = W := ⟨_, rfl⟩
 rw [halD] at hbD hzD hK1 hK2 hK3 hK4
 rw [hzC] at hzD hK4
 have HK1 := Lib.hid hK1
 have HK2 := Lib.hid hK2
 have HK3 := Lib.hid hK3
 have HK4 := Lib.hid hK4
 have HB := Lib.hid hbD
 have HOK := Lib.hid hOK
 have HR := Lib.hid hR
 have HM := Lib.hid hm
 have HF := Lib.hid hf
 have HG := Lib.hid hg
 have m0 := hK1.c 0 _ rfl
 have m1 := hK1.c 1 _ rfl
 have m2 := hK1.c 2 _ rfl
 have m3 := hK1.c 3 _ rfl
 have m4 := hK1.c 4 _ rfl
 have m5 := hK1.c 5 _ rfl
 clear hbA hbB hbC hbD hK1 hK2 hK3 hK4 hOK hR hm hf hg hin hck
 go_enter_defers Tryz.func10, Tryz.ntmps10
 go_wp2_with fail
 refine (HCK.out W4 HB.out).mono ?_; rintro e w5 ⟨rfl, hb5⟩
 have hs5 := hb5.size
 have hK1 := HK1.out.below hb5 HK1.out.lt
 have hK2 := HK2.out.below hb5 HK2.out.lt
 have hK3 := HK3.out.below hb5 HK3.out.lt
 have hK4 := HK4.out.below hb5 HK4.out.lt
 have hB5 := HB.out.trans (hb5.mono HB.out.size)
 clear m0 m1 m2 m3 m4 m5 HK1 HK2 HK3 HK4 HB HCK hb5
 have m0 := hK1.c 0 _ rfl
 have m1 := hK1.c 1 _ rfl
 have m2 := hK1.c 2 _ rfl
 have m3 := hK1.c 3 _ rfl
 have m4 := hK1.c 4 _ rfl
 have m5 := hK1.c 5 _ rfl
 have HK1 := Lib.hid hK1
 have HK2 := Lib.hid hK2
 have HK3 := Lib.hid hK3
 have HK4 := Lib.hid hK4
 have HB5 := Lib.hid hB5
 clear hK1 hK2 hK3 hK4 hB5
 by_cases h0 : ck = 0
 · subst h0
   have hR := HR.out
   rw [if_neg (by simp)] at hR
   have hOkl := HOK.out rfl
   have HR2 := Lib.hid hR
   have HOKL := Lib.hid hOkl
   clear hR hOkl HR HOK
   have hz5 : (w5.alloc (.cells #[.slice none 0 0, .int .i64 0, .slice fa F.length fc, .slice ga G.length gc] RT)).heap.size = w5.heap.size + 1 := by simp
   have hb6 := alloc_bel w5 (.cells #[.slice none 0 0, .int .i64 0, .slice fa F.length fc, .slice ga G.length gc] RT)
   have hKR := Blk.made (T := RT) (cs := #[.slice none 0 0, .int .i64 0, .slice fa F.length fc, .slice ga G.length gc]) w5
   have hbW := HB5.out.trans (hb6.mono HB5.out.size)
   have hK1 := HK1.out.alloc (.cells #[.slice none 0 0, .int .i64 0, .slice fa F.length fc, .slice ga G.length gc] RT)
   have hK2 := HK2.out.alloc (.cells #[.slice none 0 0, .int .i64 0, .slice fa F.length fc, .slice ga G.length gc] RT)
   have hK3 := HK3.out.alloc (.cells #[.slice none 0 0, .int .i64 0, .slice fa F.length fc, .slice ga G.length gc] RT)
   have hK4 := HK4.out.alloc (.cells #[.slice none 0 0, .int .i64 0, .slice fa F.length fc, .slice ga G.length gc] RT)
   obtain ⟨W6, hal6⟩ : ∃ W, w5.alloc (.cells #[.slice none 0 0, .int .i64 0, .slice fa F.length fc, .slice ga G.length gc] RT) = W := ⟨_, rfl⟩
   rw [hal6] at hz5 hb6 hKR hbW hK1 hK2 hK3 hK4
   have hf6 := (HF.out.mono (S' := fun j => j < w5.heap.size) (fun j _ hj => by have := HB5.out.size; omega)).below hbW
   have hg6 := (HG.out.mono (S' := fun j => j < w5.heap.size) (fun j _ hj => by have := HB5.out.size; omega)).below hbW
   have hm6 := (HM.out.mono (S' := fun j => j < w5.heap.size) (fun j _ hj => by have := HB5.out.size; omega)).bel hbW
   have hRs : Rs w5.heap.size w5.heap.size F G (.slice none 0 0) (.slice fa F.length fc) (.slice ga G.length gc) [] 0 W6 := ⟨hKR, World.ownsRow_nil _ _ _ _, (fun e => by cases e), Nat.le_refl _, hf6, hg6⟩
   have HNA := Lib.hid (names_any _ _ m.params m.temps m.at_ hRs (by omega) (by simp) (by omega) hm6.params hm6.temps)
   obtain ⟨D, hD⟩ : ∃ D, declL F m.at_ (parN 0 m.params ++ varN m.temps) [] 0 = D := ⟨_, rfl⟩
   have hR := HR2.out
   rw [hD] at hR HNA
   have HR3 := Lib.hid hR
   have HD := Lib.hid hD
   have HM6 := Lib.hid hm6
   have HRS := Lib.hid hRs
   have HKA1 := Lib.hid hK1
   have HKA2 := Lib.hid hK2
   have HKA3 := Lib.hid hK3
   have HKA4 := Lib.hid hK4
   have HBW := Lib.hid hbW
   clear m0 m1 m2 m3 m4 m5
   have m0 := hK1.c 0 _ rfl
   have m1 := hK1.c 1 _ rfl
   have m2 := hK1.c 2 _ rfl
   have m3 := hK1.c 3 _ rfl
   have m4 := hK1.c 4 _ rfl
   have m5 := hK1.c 5 _ rfl
   clear hb6 hKR hbW hK1 hK2 hK3 hK4 hf6 hg6 hm6 hRs hR hD HR2 HK1 HK2 HK3 HK4 HM HF HG
   go_upto_region 6 with fail
   try rw [hal6]
   clear hal6
   go_wp2_with fail
   refine HNA.out.mono ?_; intro e w7 ht
   cases D with
   | error y =>
    obtain ⟨p, en⟩ := y
    obtain ⟨rfl, hb7⟩ := ht
    have hR := HR3.out
    simp only at hR
    subst hR
    have hC2 := HKA2.out.below hb7 (by omega)
    have hC3 := HKA3.out.below hb7 (by omega)
    have hC4 := HKA4.out.below hb7 (by omega)
    have HB9 := Lib.hid (HBW.out.trans (hb7.mono (by omega)))
    unfold fltR
    clear hb7 HNA HM6 HRS HKA1 HKA2 HKA3 HKA4 HBW HB5
    go_wp2_with fail
    refine leaves_cons (f := 23) (args := #[.pointer (some ⟨w.heap.size + 1, 0, none⟩), .pointer (some ⟨w.heap.size + 1 + 1, 0, none⟩), .pointer (some ⟨w.heap.size + 1 + 1 + 1, 0, none⟩)]) (by simp) (by simp [go_sem]) ?_
    refine (rcatch_fault (w.heap.size + 1) (w.heap.size + 1 + 1) (w.heap.size + 1 + 1 + 1) p en w7 hC2 hC3 hC4 (by omega) (by omega) (by omega)).mono ?_
    rintro e u' w4 ⟨rfl, rfl, h2, h3, h4, hb⟩
    have c0 := h2.c 0 _ rfl
    have c1 := h2.c 1 _ rfl
    have c2 := h2.c 2 _ rfl
    have c3 := h2.c 3 _ rfl
    have c4 := h2.c 4 _ rfl
    have d0 := h3.c 0 _ rfl
    have e0 := h4.c 0 _ rfl
    have hbe := HB9.out.trans (hb w.heap.size (by omega) (by omega) (by omega) HB9.out.size)
    clear h2 h3 h4 hb hC2 hC3 hC4
    simp [Leaves, settle, results, Tryz.results10, go_sem, c0, c1, c2, c3, c4, d0, e0]
    exact ⟨hbe, rfl⟩
   | ok y =>
    obtain ⟨K, n⟩ := y
    obtain ⟨rfl, kv7, hR7, hn7, hm7⟩ := ht
    obtain ⟨-, d2, -⟩ := declL_ok _ _ _ _ _ _ _ HD.out
    have hdl := declL_len HD.out
    rw [List.length_nil] at hdl
    have hb7 : Below w5.heap.size W6 w7 := hm7.below (Nat.le_refl _) (fun k h => by cases h) (by omega)
    have hs7 := hm7.size
    have hbd : Below w7.heap.size w7 w7.drew := (Below.refl _ _).drew
    have hds : w7.drew.heap.size = w7.heap.size := rfl
    have hT7 : Tree (fun j => j < w5.heap.size) w7.drew (.slice ba m.body.length bc) m.body := (HM6.out.body.kp (Kp.lt hb7)).bel hbd
    have HA := Lib.hid (all_any (cntL m.body + 1) m.body (by omega) HOKL.out hc w5.heap.size w5.heap.size F G kv7 _ _ (.slice ba m.body.length bc) K n w7.drew (hR7.bel hbd) (d2 (by omega)) (by omega) (by omega) hT7)
    obtain ⟨E, hE⟩ : ∃ E, allR F G true m.body K n = E := ⟨_, rfl⟩
    have hR := HR3.out
    simp only at hR
    rw [hE] at HA hR
    have HR4 := Lib.hid hR
    have gk : ∀ j, j < w5.heap.size → some j ≠ kv7.ownBlock := fun j hj e => by
     rcases hn7 j e.symm with h | h
     · cases h
     omega
    have hK1 := (HKA1.out.below hb7 (by omega)).drewN 1
    have hK2 := (HKA2.out.below hb7 (by omega)).drewN 1
    have hK3 := (HKA3.out.below hb7 (by omega)).drewN 1
    have hK4 := (HKA4.out.below hb7 (by omega)).drewN 1
    have hBd := HBW.out.trans ((hb7.mono (by omega)).trans (hbd.mono (by omega)))
    have HKB1 := Lib.hid hK1
    have HKB2 := Lib.hid hK2
    have HKB3 := Lib.hid hK3
    have HKB4 := Lib.hid hK4
    have HBD := Lib.hid hBd
    have HGK := Lib.hid gk
    have n0 := (HKA1.out.below hb7 (by omega)).c 0 _ rfl
    have n1 := (HKA1.out.below hb7 (by omega)).c 1 _ rfl
    have n3 := (HKA1.out.below hb7 (by omega)).c 3 _ rfl
    have n4 := (HKA1.out.below hb7 (by omega)).c 4 _ rfl
    clear hb7 hbd hT7 hE hR hK1 hK2 hK3 hK4 hBd gk HNA HM6 HRS HKA1 HKA2 HKA3 HKA4 HBW HB5 HR3 hR7 hn7 hm7 m0 m1 m2 m3 m4 m5
    go_upto_region 7 with fail
    refine region_pq (fun c a d v w hd h => put_leaves hd h) (fun HPQ => ?_)
    refine Hd.start (fun v => v.cell? ⟨w.heap.size, 0, none⟩ = some (.string ⟨m.name.toArray⟩) ∧ v.cell? ⟨w.heap.size, 1, none⟩ = some (.slice pa m.params.length pc) ∧ v.cell? ⟨w.heap.size, 3, none⟩ = some (.int .i64 m.prim) ∧ v.cell? ⟨w.heap.size, 4, none⟩ = some (.slice ba m.body.length bc)) (by kernel_rfl) ⟨n0, n1, n3, n4⟩ (fun hH0 => ?_)
    clear n0 n1 n3 n4
    refine Hd.tk 0 1 hH0 ?_ (hQ := fun c a w h => HPQ c a _ _ w (by rfl) h)
    refine Hd.tk 1 11 hH0 ?_ (hQ := fun c a w h => HPQ c a _ _ w (by rfl) h)
    refine Hd.tk 2 3 hH0 ?_ (hQ := fun c a w h => HPQ c a _ _ w (by rfl) h)
    refine Hd.tk 3 4 hH0 ?_ (hQ := fun c a w h => HPQ c a _ _ w (by rfl) h)
    refine Hd.tk 4 11 hH0 ?_ (hQ := fun c a w h => HPQ c a _ _ w (by rfl) h)
    refine Hd.tk 5 6 hH0 ?_ (hQ := fun c a w h => HPQ c a _ _ w (by rfl) h)
    refine Hd.tk 6 11 hH0 ?_ (hQ := fun c a w h => HPQ c a _ _ w (by rfl) h)
    refine Hd.tk 7 10 hH0 ?_ (hQ := fun c a w h => HPQ c a _ _ w (by rfl) h)
    refine Hd.tk 8 9 hH0 ?_ (hQ := fun c a w h => HPQ c a _ _ w (by rfl) h)
    refine Hd.tk 9 10 hH0 ?_ (hQ := fun c a w h => HPQ c a _ _ w (by rfl) h)
    refine Hd.on 10 (fun K hK => ?_)
    go_simp
    refine HA.out.mono ?_; intro e w8 ht
    cases E with
    | error y =>
     obtain ⟨p, en⟩ := y
     obtain ⟨rfl, hb8⟩ := ht
     have hR := HR4.out
     simp only at hR
     subst hR
     have hC2 := HKB2.out.below hb8 (by omega)
     have hC3 := HKB3.out.below hb8 (by omega)
     have hC4 := HKB4.out.below hb8 (by omega)
     have HB9 := Lib.hid (HBD.out.trans (hb8.mono (by omega)))
     unfold fltR
     clear hb8 HA HKB1 HKB2 HKB3 HKB4 HBD HGK
     show Leaves _ _ _ _ _ _ _
     refine leaves_cons (f := 23) (args := #[.pointer (some ⟨w.heap.size + 1, 0, none⟩), .pointer (some ⟨w.heap.size + 1 + 1, 0, none⟩), .pointer (some ⟨w.heap.size + 1 + 1 + 1, 0, none⟩)]) (by simp) (by simp [go_sem]) ?_
     refine (rcatch_fault (w.heap.size + 1) (w.heap.size + 1 + 1) (w.heap.size + 1 + 1 + 1) p en w8 hC2 hC3 hC4 (by omega) (by omega) (by omega)).mono ?_
     rintro e u' w4 ⟨rfl, rfl, h2, h3, h4, hb⟩
     have c0 := h2.c 0 _ rfl
     have c1 := h2.c 1 _ rfl
     have c2 := h2.c 2 _ rfl
     have c3 := h2.c 3 _ rfl
     have c4 := h2.c 4 _ rfl
     have d0 := h3.c 0 _ rfl
     have e0 := h4.c 0 _ rfl
     have hbe := HB9.out.trans (hb w.heap.size (by omega) (by omega) (by omega) HB9.out.size)
     clear h2 h3 h4 hb hC2 hC3 hC4
     simp [Leaves, settle, results, Tryz.results10, go_sem, c0, c1, c2, c3, c4, d0, e0]
     exact ⟨hbe, rfl⟩
    | ok y =>
     obtain ⟨is, n8⟩ := y
     obtain ⟨iv, kv8, rfl, hout, hr8, hn8, hm8⟩ := ht
     have hR := HR4.out
     simp only at hR
     subst hR
     obtain ⟨ia, ic, rfl, -, -⟩ := hout.its.form
     have hK1 := blk_mv2 HKB1.out hm8 (by omega) (HGK.out _ (by omega))
     have hK2 := blk_mv2 HKB2.out hm8 (by omega) (HGK.out _ (by omega))
     have hK3 := blk_mv2 HKB3.out hm8 (by omega) (HGK.out _ (by omega))
     have hK4 := blk_mv2 HKB4.out hm8 (by omega) (HGK.out _ (by omega))
     have hBE : Below w.heap.size w w8 := by
      have h8 : Below w5.heap.size w7.drew w8 := hm8.below (Nat.le_refl _) (fun k h => by
       have := HGK.out k
       rcases Nat.lt_or_ge k w5.heap.size with h' | h'
       · exact absurd h.symm (this h')
       exact h') (by omega)
      exact HBD.out.trans (h8.mono (by omega))
     have hIT : Its (fun j => w5.heap.size ≤ j) w8 (.slice ia is.length ic) is := hout.its.mono (fun j hj _ => by have := hj.1; omega)
     have hRB := hr8.blk
     have s8 := hm8.size
     clear hout hr8 hn8 hm8 HKB1 HKB2 HKB3 HKB4 HBD HGK HA
     have q0 := hK2.c 0 _ rfl
     have q1 := hK2.c 1 _ rfl
     have q2 := hK2.c 2 _ rfl
     have q3 := hK2.c 3 _ rfl
     have q4 := hK2.c 4 _ rfl
     have qf := hK2.fz
     have c0 := hK1.c 0 _ rfl
     have c1 := hK1.c 1 _ rfl
     have c3 := hK1.c 3 _ rfl
     have c4 := hK1.c 4 _ rfl
     have HK2 := Lib.hid hK2
     have HK3 := Lib.hid hK3
     have HK4 := Lib.hid hK4
     have HBE := Lib.hid hBE
     have HIT := Lib.hid hIT
     have HRB := Lib.hid hRB
     clear hK1 hK2 hK3 hK4 hBE hIT hRB
     go_wp2_with fail
     refine hK.out _ _ ⟨c0, c1, c3, c4⟩ (fun hH1 => ?_)
     clear hK K
     try simp only [Act.put, Hd.sa, Hd.sz, Hd.ss]
     refine Hd.tk 11 12 hH1 ?_ (hQ := fun c a w h => HPQ c a _ _ w (by rfl) h)
     clear hH1 c0 c1 c3 c4
     refine Hd.la 12 (fun K hK => ?_)
     go_simp
     refine hK.out _ _ ?_
     clear hK K
     try simp only [Act.put, Hd.sa, Hd.sz, Hd.ss]
     clear hH0 q0 q1 q2 q3 q4 qf HPQ
     have hY2 := blk_set5 (v0 := .string ⟨m.name.toArray⟩) (v1 := .int .i64 (m.params.length : Int)) (v2 := .int .i64 0) (v3 := .int .i64 m.prim) (v4 := .slice ia is.length ic) HK2.out
     have hY3 := blk_far5 (k := w.heap.size + 1) (v0 := .string ⟨m.name.toArray⟩) (v1 := .int .i64 (m.params.length : Int)) (v2 := .int .i64 0) (v3 := .int .i64 m.prim) (v4 := .slice ia is.length ic) HK3.out (by omega)
     have hY4 := blk_far5 (k := w.heap.size + 1) (v0 := .string ⟨m.name.toArray⟩) (v1 := .int .i64 (m.params.length : Int)) (v2 := .int .i64 0) (v3 := .int .i64 m.prim) (v4 := .slice ia is.length ic) HK4.out (by omega)
     have hYR := blk_far5 (k := w.heap.size + 1) (v0 := .string ⟨m.name.toArray⟩) (v1 := .int .i64 (m.params.length : Int)) (v2 := .int .i64 0) (v3 := .int .i64 m.prim) (v4 := .slice ia is.length ic) HRB.out (by omega)
     have hYB := bel_set5 (k := w.heap.size + 1) (v0 := .string ⟨m.name.toArray⟩) (v1 := .int .i64 (m.params.length : Int)) (v2 := .int .i64 0) (v3 := .int .i64 m.prim) (v4 := .slice ia is.length ic) HBE.out (by omega)
     have hYI := its_set5 (k := w.heap.size + 1) (v0 := .string ⟨m.name.toArray⟩) (v1 := .int .i64 (m.params.length : Int)) (v2 := .int .i64 0) (v3 := .int .i64 m.prim) (v4 := .slice ia is.length ic) HIT.out (by omega)
     obtain ⟨W9, hW9⟩ : ∃ W, ((((w8.setCell ⟨w.heap.size + 1, 0, none⟩ (.string ⟨m.name.toArray⟩)).setCell ⟨w.heap.size + 1, 1, none⟩ (.int .i64 (m.params.length : Int))).setCell ⟨w.heap.size + 1, 2, none⟩ (.int .i64 0)).setCell ⟨w.heap.size + 1, 3, none⟩ (.int .i64 m.prim)).setCell ⟨w.heap.size + 1, 4, none⟩ (.slice ia is.length ic) = W := ⟨_, rfl⟩
     rw [hW9] at hY2 hY3 hY4 hYR hYB hYI ⊢
     have q2 := hY2.c 2 _ rfl
     have qf := hY2.fz
     have r1 := hYR.c 1 _ rfl
     have HY2 := Lib.hid hY2
     have HY3 := Lib.hid hY3
     have HY4 := Lib.hid hY4
     have HYB := Lib.hid hYB
     have HYI := Lib.hid hYI
     clear hY2 hY3 hY4 hYR hYB hYI hW9 HK2 HK3 HK4 HBE HIT HRB
     go_upto_region 9 with fail
     have hZ2 := HY2.out.set_ 2 (.int .i64 (n8 : Int)) #[.string ⟨m.name.toArray⟩, .int .i64 (m.params.length : Int), .int .i64 (n8 : Int), .int .i64 m.prim, .slice ia is.length ic] rfl
     have hZ3 := HY3.out.far (p := ⟨w.heap.size + 1, 2, none⟩) (show w.heap.size + 1 + 1 ≠ w.heap.size + 1 by omega) (.int .i64 (n8 : Int))
     have hZ4 := HY4.out.far (p := ⟨w.heap.size + 1, 2, none⟩) (show w.heap.size + 1 + 1 + 1 ≠ w.heap.size + 1 by omega) (.int .i64 (n8 : Int))
     have hZB := HYB.out.setCell (p := ⟨w.heap.size + 1, 2, none⟩) (show w.heap.size ≤ w.heap.size + 1 by omega) (.int .i64 (n8 : Int))
     have hZI := HYI.out.kp (kp_one (k := w.heap.size + 1) (by omega) 2 (.int .i64 (n8 : Int)))
     obtain ⟨WA, hWA⟩ : ∃ W, W9.setCell ⟨w.heap.size + 1, 2, none⟩ (.int .i64 (n8 : Int)) = W := ⟨_, rfl⟩
     rw [hWA] at hZ2 hZ3 hZ4 hZB hZI
     try rw [hWA]
     clear q2 qf r1 hWA HY2 HY3 HY4 HYB HYI
     have q0 := hZ2.c 0 _ rfl
     have q1 := hZ2.c 1 _ rfl
     have q2 := hZ2.c 2 _ rfl
     have q3 := hZ2.c 3 _ rfl
     have q4 := hZ2.c 4 _ rfl
     have qf := hZ2.fz
     have hV2 := blk_set5 (v0 := .string ⟨m.name.toArray⟩) (v1 := .int .i64 (m.params.length : Int)) (v2 := .int .i64 (n8 : Int)) (v3 := .int .i64 m.prim) (v4 := .slice ia is.length ic) hZ2
     have hV3 := blk_far5 (k := w.heap.size + 1) (v0 := .string ⟨m.name.toArray⟩) (v1 := .int .i64 (m.params.length : Int)) (v2 := .int .i64 (n8 : Int)) (v3 := .int .i64 m.prim) (v4 := .slice ia is.length ic) hZ3 (by omega)
     have hV4 := blk_far5 (k := w.heap.size + 1) (v0 := .string ⟨m.name.toArray⟩) (v1 := .int .i64 (m.params.length : Int)) (v2 := .int .i64 (n8 : Int)) (v3 := .int .i64 m.prim) (v4 := .slice ia is.length ic) hZ4 (by omega)
     have hVB := bel_set5 (k := w.heap.size + 1) (v0 := .string ⟨m.name.toArray⟩) (v1 := .int .i64 (m.params.length : Int)) (v2 := .int .i64 (n8 : Int)) (v3 := .int .i64 m.prim) (v4 := .slice ia is.length ic) hZB (by omega)
     have hVI := its_set5 (k := w.heap.size + 1) (v0 := .string ⟨m.name.toArray⟩) (v1 := .int .i64 (m.params.length : Int)) (v2 := .int .i64 (n8 : Int)) (v3 := .int .i64 m.prim) (v4 := .slice ia is.length ic) hZI (by omega)
     obtain ⟨WB, hWB⟩ : ∃ W, ((((WA.setCell ⟨w.heap.size + 1, 0, none⟩ (.string ⟨m.name.toArray⟩)).setCell ⟨w.heap.size + 1, 1, none⟩ (.int .i64 (m.params.length : Int))).setCell ⟨w.heap.size + 1, 2, none⟩ (.int .i64 (n8 : Int))).setCell ⟨w.heap.size + 1, 3, none⟩ (.int .i64 m.prim)).setCell ⟨w.heap.size + 1, 4, none⟩ (.slice ia is.length ic) = W := ⟨_, rfl⟩
     rw [hWB] at hV2 hV3 hV4 hVB hVI
     have p0 := hV3.c 0 _ rfl
     have pf := hV3.fz
     have o0 := hV4.c 0 _ rfl
     have of := hV4.fz
     have HV2 := Lib.hid hV2
     have HV3 := Lib.hid hV3
     have HV4 := Lib.hid hV4
     have HVB := Lib.hid hVB
     have HVI := Lib.hid hVI
     clear hZ2 hZ3 hZ4 hZB hZI hV2 hV3 hV4 hVB hVI
     have nA : ¬ w.heap.size + 1 + 1 = w.heap.size + 1 + 1 + 1 := by omega
     have nB : ¬ w.heap.size + 1 + 1 + 1 = w.heap.size + 1 + 1 := by omega
     go_wp2_with fail
     have hU2 := (HV2.out.far (p := ⟨w.heap.size + 1 + 1, 0, none⟩) (show w.heap.size + 1 ≠ w.heap.size + 1 + 1 by omega) (.int .i64 0)).far (p := ⟨w.heap.size + 1 + 1 + 1, 0, none⟩) (show w.heap.size + 1 ≠ w.heap.size + 1 + 1 + 1 by omega) (.int .i64 0)
     have hU3 := (HV3.out.set_ 0 (.int .i64 0) _ rfl).far (p := ⟨w.heap.size + 1 + 1 + 1, 0, none⟩) nA (.int .i64 0)
     have hU4 := (HV4.out.far (p := ⟨w.heap.size + 1 + 1, 0, none⟩) nB (.int .i64 0)).set_ 0 (.int .i64 0) _ rfl
     have hUB := (HVB.out.setCell (p := ⟨w.heap.size + 1 + 1, 0, none⟩) (show w.heap.size ≤ w.heap.size + 1 + 1 by omega) (.int .i64 0)).setCell (p := ⟨w.heap.size + 1 + 1 + 1, 0, none⟩) (show w.heap.size ≤ w.heap.size + 1 + 1 + 1 by omega) (.int .i64 0)
     have hUI := (HVI.out.kp (kp_one (k := w.heap.size + 1 + 1) (by omega) 0 (.int .i64 0))).kp (kp_one (k := w.heap.size + 1 + 1 + 1) (by omega) 0 (.int .i64 0))
     obtain ⟨WC, hWC⟩ : ∃ W, (WB.setCell ⟨w.heap.size + 1 + 1, 0, none⟩ (.int .i64 0)).setCell ⟨w.heap.size + 1 + 1 + 1, 0, none⟩ (.int .i64 0) = W := ⟨_, rfl⟩
     try rw [hWB]
     rw [hWC] at hU2 hU3 hU4 hUB hUI ⊢
     clear HV2 HV3 HV4 HVB HVI hWC hWB p0 pf o0 of q0 q1 q2 q3 q4 qf
     refine leaves_cons (f := 23) (args := #[.pointer (some ⟨w.heap.size + 1, 0, none⟩), .pointer (some ⟨w.heap.size + 1 + 1, 0, none⟩), .pointer (some ⟨w.heap.size + 1 + 1 + 1, 0, none⟩)]) (by simp) (by simp [go_sem]) ?_
     refine (rcatch_idle (w.heap.size + 1) (w.heap.size + 1 + 1) (w.heap.size + 1 + 1 + 1) _).mono ?_
     rintro e u' w4 ⟨rfl, rfl, rfl⟩
     have c0 := hU2.c 0 _ rfl
     have c1 := hU2.c 1 _ rfl
     have c2 := hU2.c 2 _ rfl
     have c3 := hU2.c 3 _ rfl
     have c4 := hU2.c 4 _ rfl
     have d0 := hU3.c 0 (.int .i64 0) (by simp)
     have e0 := hU4.c 0 (.int .i64 0) (by simp)
     clear hU2 hU3 hU4
     simp [Leaves, settle, results, Tryz.results10, go_sem, c0, c1, c2, c3, c4, d0, e0]
     exact ⟨hUB, _, rfl, hUI.mono (fun j hj _ => by omega)⟩
 have hn0 : (ck != 0) = true := by simpa using h0
 have hR := HR.out
 rw [if_pos (by simpa using h0)] at hR
 subst hR
 clear HR HOK h0
 go_upto_region 3 with fail
 refine wp_region_noPanic ?_
 refine Hd.start (fun v => v.cell? ⟨w.heap.size, 5, none⟩ = some (.int .i64 m.at_)) (by kernel_rfl) m5 (fun hH0 => ?_)
 refine Hd.tk 0 4 hH0 ?_
 refine Hd.tk 1 2 hH0 ?_
 refine Hd.tk 2 5 hH0 ?_
 refine Hd.tk 3 6 hH0 ?_
 have g1 := Blk.drewN HK1.out 1
 have g2 := Blk.drewN HK2.out 1
 have g3 := Blk.drewN HK3.out 1
 have g4 := Blk.drewN HK4.out 1
 have gb := bel_drewN HB5.out 1
 clear m0 m1 m2 m3 m4 m5 hH0
 obtain ⟨V, hV⟩ : ∃ V, w5.drewN 1 = V := ⟨_, rfl⟩
 rw [hV] at g1 g2 g3 g4 gb
 have hV : w5.drew = V := hV
 rw [hV]
 have m0 := g2.c 0 _ rfl
 have m1 := g2.c 1 _ rfl
 have m2 := g2.c 2 _ rfl
 have m3 := g2.c 3 _ rfl
 have m4 := g2.c 4 _ rfl
 have mf := g2.fz
 refine Hd.on 4 (fun K hK => ?_)
 go_simp
 have hY1 := blk_far5 (k := w.heap.size + 1) (v0 := .string ⟨#[]⟩) (v1 := .int .i64 0) (v2 := .int .i64 0) (v3 := .int .i64 0) (v4 := .slice none 0 0) g1 (by omega)
 have hY2 := blk_set5 (v0 := .string ⟨#[]⟩) (v1 := .int .i64 0) (v2 := .int .i64 0) (v3 := .int .i64 0) (v4 := .slice none 0 0) g2
 have hY3 := blk_far5 (k := w.heap.size + 1) (v0 := .string ⟨#[]⟩) (v1 := .int .i64 0) (v2 := .int .i64 0) (v3 := .int .i64 0) (v4 := .slice none 0 0) g3 (by omega)
 have hY4 := blk_far5 (k := w.heap.size + 1) (v0 := .string ⟨#[]⟩) (v1 := .int .i64 0) (v2 := .int .i64 0) (v3 := .int .i64 0) (v4 := .slice none 0 0) g4 (by omega)
 have hYB := bel_set5 (k := w.heap.size + 1) (v0 := .string ⟨#[]⟩) (v1 := .int .i64 0) (v2 := .int .i64 0) (v3 := .int .i64 0) (v4 := .slice none 0 0) gb (by omega)
 obtain ⟨X, hX⟩ : ∃ W, ((((V.setCell ⟨w.heap.size + 1, 0, none⟩ (.string ⟨#[]⟩)).setCell ⟨w.heap.size + 1, 1, none⟩ (.int .i64 0)).setCell ⟨w.heap.size + 1, 2, none⟩ (.int .i64 0)).setCell ⟨w.heap.size + 1, 3, none⟩ (.int .i64 0)).setCell ⟨w.heap.size + 1, 4, none⟩ (.slice none 0 0) = W := ⟨_, rfl⟩
 rw [hX] at hY1 hY2 hY3 hY4 hYB ⊢
 clear g1 g2 g3 g4 gb m0 m1 m2 m3 m4 mf hX hV
 have p0 := hY3.c 0 _ rfl
 have pf := hY3.fz
 have o0 := hY4.c 0 _ rfl
 have of := hY4.fz
 refine hK.out _ _ (hY1.c 5 _ rfl) (fun hH1 => ?_)
 clear hK K
 try simp only [Act.put, Hd.sa, Hd.sz, Hd.ss]
 refine Hd.on 5 (fun K hK => ?_)
 go_simp
 have r1 := hY1.far (p := ⟨w.heap.size + 1 + 1, 0, none⟩) (show w.heap.size ≠ w.heap.size + 1 + 1 by omega) (.int .i64 m.at_)
 refine hK.out _ _ (r1.c 5 _ rfl) (fun hH2 => ?_)
 clear hK K
 try simp only [Act.put, Hd.sa, Hd.sz, Hd.ss]
 have nA : ¬ w.heap.size + 1 + 1 = w.heap.size + 1 + 1 + 1 := by omega
 have nB : ¬ w.heap.size + 1 + 1 + 1 = w.heap.size + 1 + 1 := by omega
 refine Hd.la 6 (fun K hK => ?_)
 go_simp
 refine hK.out _ _ ?_
 clear hK K
 try simp only [Act.put, Hd.sa, Hd.sz, Hd.ss]
 try simp only [NoPanic]
 go_wp2_with fail
 have hU2 := (hY2.far (p := ⟨w.heap.size + 1 + 1, 0, none⟩) (show w.heap.size + 1 ≠ w.heap.size + 1 + 1 by omega) (.int .i64 m.at_)).far (p := ⟨w.heap.size + 1 + 1 + 1, 0, none⟩) (show w.heap.size + 1 ≠ w.heap.size + 1 + 1 + 1 by omega) (.int .i64 ck)
 have hU3 := (hY3.set_ 0 (.int .i64 m.at_) _ rfl).far (p := ⟨w.heap.size + 1 + 1 + 1, 0, none⟩) nA (.int .i64 ck)
 have hU4 := (hY4.far (p := ⟨w.heap.size + 1 + 1, 0, none⟩) nB (.int .i64 m.at_)).set_ 0 (.int .i64 ck) _ rfl
 have hUB := (hYB.setCell (p := ⟨w.heap.size + 1 + 1, 0, none⟩) (show w.heap.size ≤ w.heap.size + 1 + 1 by omega) (.int .i64 m.at_)).setCell (p := ⟨w.heap.size + 1 + 1 + 1, 0, none⟩) (show w.heap.size ≤ w.heap.size + 1 + 1 + 1 by omega) (.int .i64 ck)
 have c0 := hU2.c 0 _ rfl
 have c1 := hU2.c 1 _ rfl
 have c2 := hU2.c 2 _ rfl
 have c3 := hU2.c 3 _ rfl
 have c4 := hU2.c 4 _ rfl
 have d0 := hU3.c 0 (.int .i64 m.at_) (by simp)
 have e0 := hU4.c 0 (.int .i64 ck) (by simp)
 clear hU2 hU3 hU4
 show Leaves _ _ _ _ _ _ _
 simp [Leaves, settle, results, Tryz.results10, go_sem, c0, c1, c2, c3, c4, d0, e0]
 exact ⟨hUB, rfl⟩
end
end Rv
end Go.Proofs.YtmmgfifpjifjnaaGreatDoor
namespace Go.Proofs.YtmmgfifpjifjnaaGreatDoor
open Go.RowKit
namespace Rv
open Bs Sm Tr
set_option maxRecDepth 100000 in
set_option maxHeartbeats 1600000 in
theorem few_any (v : Value) (l : List Bytes) (w : World) (hl : Rd (fun _ => True) strV w v l) :
  Calls Tryz.prog 8 #[v, .int .i64 8] w (fun e w' => Below w.heap.size w w' ∧ ∃ v', e = .returned v' ∧ Rd (fun j => w.heap.size ≤ j) strV w' v' (l.take 8)) := by
 obtain ⟨iI, hiI, hI0, hI1, hI2⟩ := info_parts (show (Tryz.prog.info? 9).map (fun i => (i.zero, i.size, i.bytes)) = some (some (.string ⟨#[]⟩), 1, 16) by kernel_rfl)
 have tI : Tryz.prog.underlying 22 = some (.slice 9) := by kernel_rfl
 obtain ⟨a, c, rfl, hlc, hcm⟩ := hl.form
 have hE : (w.alloc (.cells #[] 9)).ownsRow w.heap.size 9 1 (.slice (some ⟨w.heap.size, 0, none⟩) 0 0) 0 [] := World.ownsRow_made (e := 9) (size := 1) w #[] 0 (Nat.le_refl _) (by unfold maxLen; omega) rfl
 have hX : Below w.heap.size w (w.alloc (.cells #[] 9)) := (Below.refl _ w).alloc (Nat.le_refl _) _
 have HE := Lib.hid hE
 have HX := Lib.hid hX
 by_cases h8 : 8 < l.length
 · have hd : decide ((8 : Int) < (l.length : Int)) = true := decide_eq_true (by omega)
   have hi1 : (8 : Int) ≤ (c : Int) := by omega
   have hlen : (l.take 8).length = 8 := by simp; omega
   have HL := Lib.hid (hl.cut 8 (by omega))
   have HLEN := Lib.hid hlen
   clear hE hX hl hlen
   go_enter Tryz.func8, Tryz.ntmps8
   go_wp2_with (at_builtin; refine wpList_rd (S := fun _ => True) (f := strV) (fun _ => rfl) _ ?hw _ _ 22 9 rfl tI iI (.string ⟨#[]⟩) 16 hiI hI0 hI1 hI2 rfl HE.out rfl rfl (HL.out.below HX.out) ?c1 ?c2 ?c3 ?_)
   case c1 => rw [HLEN.out]; unfold maxLen; omega
   case c2 => rw [HLEN.out]; omega
   case c3 => simp
   intro v6 w6 hown6 hg6 hat6
   have hb6 := HX.out.grown hg6 HX.out.size (fun k hk => (HE.out.lt k hk).1)
   have HO := Lib.hid (show w6.ownsRow w.heap.size 9 1 v6 (l.take 8).length ((l.take 8).map strV) by simpa using hown6)
   clear hown6 hg6 hat6
   go_wp2_with fail
   go_ret
   exact ⟨hb6, _, rfl, Rd.of HO.out⟩
 have hd : decide ((8 : Int) < (l.length : Int)) = false := decide_eq_false (by omega)
 have ht : l.take 8 = l := List.take_of_length_le (by omega)
 rw [ht]
 have HL := Lib.hid hl
 clear hE hX hl ht
 go_enter Tryz.func8, Tryz.ntmps8
 go_wp2_with (at_builtin; refine wpList_rd (S := fun _ => True) (f := strV) (fun _ => rfl) _ ?hv _ _ 22 9 rfl tI iI (.string ⟨#[]⟩) 16 hiI hI0 hI1 hI2 rfl HE.out rfl rfl (HL.out.below HX.out) ?d1 ?d2 ?d3 ?_)
 case d1 => unfold maxLen; omega
 case d2 => omega
 case d3 => simp
 intro v6 w6 hown6 hg6 hat6
 have hb6 := HX.out.grown hg6 HX.out.size (fun k hk => (HE.out.lt k hk).1)
 have HO := Lib.hid (show w6.ownsRow w.heap.size 9 1 v6 l.length (l.map strV) by simpa using hown6)
 clear hown6 hg6 hat6
 go_wp2_with fail
 go_ret
 exact ⟨hb6, _, rfl, Rd.of HO.out⟩
end Rv
end Go.Proofs.YtmmgfifpjifjnaaGreatDoor
