/- Package scope, the walk, 8: send (wip/gen/gen_rvw8.py prints this). · Package scope, the walk, 9: send to super (wip/gen/gen_rvw9.py prints this). · Package scope, the walk, 10: cascade (wip/gen/gen_rvwa.py prints this). · Package scope, the walk, 11: block (wip/gen/gen_rvwb.py prints this). -/
import Derived.Test.YtmmgfifpjifjnaaGreatDoorRvC
set_option linter.unusedVariables false
namespace Go.Proofs.YtmmgfifpjifjnaaGreatDoor
open Go.RowKit
namespace Rv
open Bs Sm Tr
def PanicOk (Q : Exit → Act → World → Prop) : Prop := ∀ c (a a' : Act) (w : World), a'.defers = a.defers → Q (.panic c) a' w → Q (.panic c) a w
theorem put_defers (a : Act) (d : Option Nat) (v : Value) : (a.put d v).defers = a.defers := by cases d <;> rfl
theorem region_pk {P : Program} {Q : Exit → Act → World → Prop} {c : Code} {a : Act} {w : World} (hq : PanicOk Q) (h : PanicOk Q → c.wp P Q a w) : c.wp P Q a w := h hq
theorem blk_mv2 {T k b : Nat} {g : Option Nat} {cs : Array Value} {w w' : World} (h : Blk T k cs w) (hm : Mv2 b g w w') (h1 : k ≠ b) (h2 : some k ≠ g) : Blk T k cs w' := (hm.block k h.lt h1 h2).trans h
section
variable {A B b k : Nat} {F G : List Bytes} {kv kv' fv gv v v0 v1 v2 v3 v4 v5 : Value} {N : List Kn} {n : Nat} {w W : World} {l : List It}
theorem six_item (hb : b < w.heap.size) (hBk : B ≤ w.heap.size) (hk : w.heap.size ≤ k) (hkA : k < A) (hN : ∀ j, kv.ownBlock = some j → B ≤ j ∧ j < w.heap.size) (hnr : ∀ j, kv'.ownBlock = some j → kv.ownBlock = some j ∨ A ≤ j)
  (hits : Its (Nw A kv') W v l) (hR : Rs B b F G kv' fv gv N n W) (hM : Mv2 b kv.ownBlock w W) :
  Its (Nw w.heap.size kv') ((((((W.setCell ⟨k, 0, none⟩ v0).setCell ⟨k, 1, none⟩ v1).setCell ⟨k, 2, none⟩ v2).setCell ⟨k, 3, none⟩ v3).setCell ⟨k, 4, none⟩ v4).setCell ⟨k, 5, none⟩ v5) v l ∧
  Rs B b F G kv' fv gv N n ((((((W.setCell ⟨k, 0, none⟩ v0).setCell ⟨k, 1, none⟩ v1).setCell ⟨k, 2, none⟩ v2).setCell ⟨k, 3, none⟩ v3).setCell ⟨k, 4, none⟩ v4).setCell ⟨k, 5, none⟩ v5) ∧ Near w kv kv' ∧
  Mv2 b kv.ownBlock w ((((((W.setCell ⟨k, 0, none⟩ v0).setCell ⟨k, 1, none⟩ v1).setCell ⟨k, 2, none⟩ v2).setCell ⟨k, 3, none⟩ v3).setCell ⟨k, 4, none⟩ v4).setCell ⟨k, 5, none⟩ v5) := by
 have hkv : kv'.ownBlock ≠ some k := fun e => by
  rcases hnr k e with h | h
  · have := (hN k h).2; omega
  omega
 have hbk : b ≠ k := by omega
 have far : ∀ (X : World) (i : Nat) (u : Value), Rs B b F G kv' fv gv N n X → Rs B b F G kv' fv gv N n (X.setCell ⟨k, i, none⟩ u) := fun X i u h => h.far (p := ⟨k, i, none⟩) hbk hkv (show B ≤ k by omega) u
 have kp : Kp (Nw A kv') W ((((((W.setCell ⟨k, 0, none⟩ v0).setCell ⟨k, 1, none⟩ v1).setCell ⟨k, 2, none⟩ v2).setCell ⟨k, 3, none⟩ v3).setCell ⟨k, 4, none⟩ v4).setCell ⟨k, 5, none⟩ v5) := by
  refine ⟨by simp [World.setCell], fun j hj _ => ?_⟩
  have hne : j ≠ k := fun e => by have := hj.1; omega
  rw [Below.heap_setCell _ ⟨k, 5, none⟩ v5 j hne, Below.heap_setCell _ ⟨k, 4, none⟩ v4 j hne, Below.heap_setCell _ ⟨k, 3, none⟩ v3 j hne, Below.heap_setCell _ ⟨k, 2, none⟩ v2 j hne, Below.heap_setCell _ ⟨k, 1, none⟩ v1 j hne, Below.heap_setCell _ ⟨k, 0, none⟩ v0 j hne]
 refine ⟨(hits.kp kp).age (by omega), far _ _ _ (far _ _ _ (far _ _ _ (far _ _ _ (far _ _ _ (far _ _ _ hR))))), fun j hj => ?_, (((((hM.new (p := ⟨k, 0, none⟩) hk v0).new (p := ⟨k, 1, none⟩) hk v1).new (p := ⟨k, 2, none⟩) hk v2).new (p := ⟨k, 3, none⟩) hk v3).new (p := ⟨k, 4, none⟩) hk v4).new (p := ⟨k, 5, none⟩) hk v5⟩
 rcases hnr j hj with h | h
 · exact .inl h
 exact .inr (by omega)
end
section
variable {B b : Nat} {F G : List Bytes} {kv fv gv : Value} {N : List Kn} {n : Nat} {w : World}
set_option maxRecDepth 100000 in
set_option maxHeartbeats 3200000 in
theorem send_plain (x : Nd) (sup : Bool) (ka na : Option Addr) (kc nc : Nat) (h7 : x.kind = 7) (hs0 : (sup && superB x) = false) (hO : OkN x) (hAll : AllOk x.kids) (hcnt : x.kids.length ≤ 100000) (hR : Rs B b F G kv fv gv N n w) (hn : n ≤ 60) (hNn : N.length ≤ n) (hB : B ≤ w.heap.size) (hT : Tree (fun j => j < B) w (.slice ka x.kids.length kc) x.kids) :
  Calls Tryz.prog 84 #[.pointer (some ⟨b, 0, none⟩), .agg #[.int .i64 x.kind, .string ⟨x.name.toArray⟩, .int .i64 x.num, .slice ka x.kids.length kc, .slice na x.names.length nc, .int .i64 x.at_], .bool sup] w (ItO B b F G kv fv gv N (oneR F G sup x N n) w) := by
 have hlt := hR.blk.lt
 have hlo := hR.lo
 have hrl := hR.row.lt
 have hbA := alloc_bel w (.cells #[.int .i64 x.kind, .string ⟨x.name.toArray⟩, .int .i64 x.num, .slice ka x.kids.length kc, .slice na x.names.length nc, .int .i64 x.at_] NDT)
 have hKA := Blk.made (T := NDT) (cs := #[.int .i64 x.kind, .string ⟨x.name.toArray⟩, .int .i64 x.num, .slice ka x.kids.length kc, .slice na x.names.length nc, .int .i64 x.at_]) w
 have hzA : (w.alloc (.cells #[.int .i64 x.kind, .string ⟨x.name.toArray⟩, .int .i64 x.num, .slice ka x.kids.length kc, .slice na x.names.length nc, .int .i64 x.at_] NDT)).heap.size = w.heap.size + 1 := by simp
 obtain ⟨W1, halA⟩ : ∃ W, w.alloc (.cells #[.int .i64 x.kind, .string ⟨x.name.toArray⟩, .int .i64 x.num, .slice ka x.kids.length kc, .slice na x.names.length nc, .int .i64 x.at_] NDT) = W := ⟨_, rfl⟩
 rw [halA] at hbA hKA hzA
 have hbB := hbA.trans ((alloc_bel W1 (.cells #[.int .i64 0, .string ⟨#[]⟩, .int .i64 0, .int .i64 0, .int .i64 0, .slice none 0 0] IT)).mono (by omega))
 have hKB := Blk.made (T := IT) (cs := #[.int .i64 0, .string ⟨#[]⟩, .int .i64 0, .int .i64 0, .int .i64 0, .slice none 0 0]) W1
 have hKA := hKA.alloc (.cells #[.int .i64 0, .string ⟨#[]⟩, .int .i64 0, .int .i64 0, .int .i64 0, .slice none 0 0] IT)
 have hzB : (W1.alloc (.cells #[.int .i64 0, .string ⟨#[]⟩, .int .i64 0, .int .i64 0, .int .i64 0, .slice none 0 0] IT)).heap.size = W1.heap.size + 1 := by simp
 obtain ⟨W2, halB⟩ : ∃ W, W1.alloc (.cells #[.int .i64 0, .string ⟨#[]⟩, .int .i64 0, .int .i64 0, .int .i64 0, .slice none 0 0] IT) = W := ⟨_, rfl⟩
 rw [halB] at hbB hKA hKB hzB
 rw [hzA] at hKB hzB
 have hT2 := hT.kp (Kp.lt (hbB.mono hB))
 have HS := Lib.hid (fun w' (hb : Below W2.heap.size W2 w') => super_any (B := B) x ka na kc nc (hT2.kp (Kp.lt (hb.mono (by omega)))) hO (by have := hb.size; omega))
 obtain ⟨E, hE⟩ : ∃ E, allR F G true x.kids N n = E := ⟨_, rfl⟩
 have HA := fun w' (hb : Below W2.heap.size W2 w') => hAll B b F G kv fv gv (.slice ka x.kids.length kc) N n w' ((hR.bel hbB).bel hb) hn hNn (by have := hb.size; omega) (hT2.kp (Kp.lt (hb.mono (by omega))))
 rw [hE] at HA
 replace HA := Lib.hid HA
 obtain ⟨R, hRR⟩ : ∃ R, oneR F G sup x N n = R := ⟨_, rfl⟩
 rw [hRR]
 unfold oneR at hRR
 rw [if_neg (by omega), if_neg (by omega), if_pos h7] at hRR
 rw [hs0, hE] at hRR
 simp only [Bool.false_eq_true, if_false] at hRR
 have hk7 : (x.kind == 7) = true := by rw [h7]; rfl
 rw [hk7, Bool.true_and] at HS
 obtain ⟨sb, hsb⟩ : ∃ q, superB x = q := ⟨_, rfl⟩
 rw [hsb] at HS hs0
 have c0 := hKA.c 0 _ rfl
 have c1 := hKA.c 1 _ rfl
 have c2 := hKA.c 2 _ rfl
 have c3 := hKA.c 3 _ rfl
 have c4 := hKA.c 4 _ rfl
 have c5 := hKA.c 5 _ rfl
 have HKA := Lib.hid hKA
 have HKB := Lib.hid hKB
 have HBB := Lib.hid hbB
 have HRR := Lib.hid hRR
 have HR := Lib.hid hR
 have HRL := Lib.hid hrl
 have HS0 := Lib.hid hs0
 clear hT hT2 hAll hE hRR hk7 hsb hKA hKB hbA hbB hR hrl hs0 h7 hO
 go_enter Tryz.func84, Tryz.ntmps84
 by_cases h13 : 13 < x.kids.length
 · have hd : decide ((12 : Int) < (x.kids.length : Int) - 1) = true := decide_eq_true (by omega)
   have hR := HRR.out
   rw [if_pos h13] at hR
   subst hR
   have HB9 := Lib.hid (HBB.out.mono hB)
   go_wp2_with fail
   exact ⟨rfl, rfl, HB9.out⟩
 have hd : decide ((12 : Int) < (x.kids.length : Int) - 1) = false := decide_eq_false (by omega)
 have hR := HRR.out
 rw [if_neg h13] at hR
 have HR2 := Lib.hid hR
 clear hR HRR h13
 go_upto_region 3 with fail
 go_cut [20] (fun s20 wx => s20 = .bool false ∧ Hid (Below W2.heap.size W2 wx))
 case first =>
  go_wp2_with fail
  refine (HS.out W2 (Below.refl _ _)).mono ?_; rintro e w3 ⟨rfl, hb3⟩
  have HB3 := Lib.hid hb3
  have h := HS0.out
  clear hb3
  cases sb with
  | false =>
   go_wp2_with fail
   go_meet
   exact ⟨rfl, HB3⟩
  | true =>
   have hf : sup = false := by simpa using h
   subst hf
   go_wp2_with fail
   go_meet
   exact ⟨rfl, HB3⟩
 case rest =>
 obtain ⟨rfl, HB3⟩ := hcut
 have hs3 := HB3.out.size
 have hka3 := HKA.out.below HB3.out HKA.out.lt
 have HKR3 := Lib.hid (HKB.out.below HB3.out HKB.out.lt)
 have HKA3 := Lib.hid hka3
 have hc13 : wc.cell? ⟨w.heap.size, 1, none⟩ = some (.string ⟨x.name.toArray⟩) ∧ wc.cell? ⟨w.heap.size, 3, none⟩ = some (.slice ka x.kids.length kc) := ⟨hka3.c 1 _ rfl, hka3.c 3 _ rfl⟩
 have HC13 := Lib.hid hc13
 clear c0 c1 c2 c3 c4 c5 hka3 hc13
 go_upto_region 5 with fail
 refine region_pk (fun c a a' w h hq => (show a.defers = [] ∧ _ from ⟨h ▸ (show a'.defers = [] ∧ _ from hq).1, (show a'.defers = [] ∧ _ from hq).2⟩)) (fun HPQ => ?_)
 refine Hd.start (fun v => v.cell? ⟨w.heap.size, 1, none⟩ = some (.string ⟨x.name.toArray⟩) ∧ v.cell? ⟨w.heap.size, 3, none⟩ = some (.slice ka x.kids.length kc)) (by kernel_rfl) HC13.out (fun hH0 => ?_)
 refine Hd.tk 0 1 hH0 ?_ (hQ := fun c a w h => HPQ c _ _ w (put_defers a _ _) h)
 refine Hd.tk 1 6 hH0 ?_ (hQ := fun c a w h => HPQ c _ _ w (put_defers a _ _) h)
 refine Hd.tk 2 5 hH0 ?_ (hQ := fun c a w h => HPQ c _ _ w (put_defers a _ _) h)
 refine Hd.tk 3 4 hH0 ?_ (hQ := fun c a w h => HPQ c _ _ w (put_defers a _ _) h)
 refine Hd.tk 4 5 hH0 ?_ (hQ := fun c a w h => HPQ c _ _ w (put_defers a _ _) h)
 have HBd := Lib.hid (HB3.out.trans ((Below.refl _ wc).drew.mono hs3))
 refine Hd.on 5 (fun K hK => ?_)
 go_simp
 refine (HA.out wc.drew HBd.out).mono ?_; intro e w4 ht
 have hdr : wc.drew.heap.size = wc.heap.size := rfl
 have n0 : w.heap.size ≠ b := by omega
 have n1 : w.heap.size + 1 ≠ b := by omega
 have g0 : some w.heap.size ≠ kv.ownBlock := fun e => by have := (HRL.out _ e.symm).2; omega
 have g1 : some (w.heap.size + 1) ≠ kv.ownBlock := fun e => by have := (HRL.out _ e.symm).2; omega
 cases E with
 | error y =>
  obtain ⟨rfl, hb4⟩ := ht
  have hR := HR2.out
  simp only at hR
  subst hR
  have HB9 := Lib.hid ((HBB.out.mono hB).trans ((HBd.out.mono (by omega)).trans hb4))
  exact ⟨rfl, rfl, HB9.out⟩
 | ok y =>
  obtain ⟨ks, n4⟩ := y
  obtain ⟨iv, kv4, rfl, hout, hr4, hn4, hm4⟩ := ht
  have hR := HR2.out
  simp only at hR
  subst hR
  obtain ⟨ia, ic, rfl, -, -⟩ := hout.its.form
  have hkaD : Blk NDT w.heap.size #[.int .i64 x.kind, .string ⟨x.name.toArray⟩, .int .i64 x.num, .slice ka x.kids.length kc, .slice na x.names.length nc, .int .i64 x.at_] w4 := blk_mv2 (show Blk NDT w.heap.size #[.int .i64 x.kind, .string ⟨x.name.toArray⟩, .int .i64 x.num, .slice ka x.kids.length kc, .slice na x.names.length nc, .int .i64 x.at_] wc.drew from HKA3.out.drewN 1) hm4 n0 g0
  have hkrD : Blk IT (w.heap.size + 1) #[.int .i64 0, .string ⟨#[]⟩, .int .i64 0, .int .i64 0, .int .i64 0, .slice none 0 0] w4 := blk_mv2 (show Blk IT (w.heap.size + 1) #[.int .i64 0, .string ⟨#[]⟩, .int .i64 0, .int .i64 0, .int .i64 0, .slice none 0 0] wc.drew from HKR3.out.drewN 1) hm4 n1 g1
  have hMD : Mv2 b kv.ownBlock w w4 := (Mv2.of_bel (HBB.out.trans (HBd.out.mono (by omega)))).trans (Near.refl _ _) hm4
  have hnr : ∀ j, kv4.ownBlock = some j → kv.ownBlock = some j ∨ wc.heap.size ≤ j := fun j hj => hn4 j hj
  have hits := hout.its
  have HKR := Lib.hid hkrD
  have hc13 : w4.cell? ⟨w.heap.size, 1, none⟩ = some (.string ⟨x.name.toArray⟩) ∧ w4.cell? ⟨w.heap.size, 3, none⟩ = some (.slice ka x.kids.length kc) := ⟨hkaD.c 1 _ rfl, hkaD.c 3 _ rfl⟩
  have HMD := Lib.hid hMD
  have HNR4 := Lib.hid hnr
  have HITS := Lib.hid hits
  have HR4 := Lib.hid hr4
  have HC4 := Lib.hid hc13
  clear hout hr4 hn4 hm4 hkaD hkrD hMD hnr hits hc13
  go_wp2_with fail
  refine hK.out _ _ HC4.out (fun hH1 => ?_)
  clear hK K
  try simp only [Act.put, Hd.sa, Hd.sz, Hd.ss]
  refine Hd.tk 6 7 hH1 ?_ (hQ := fun c a w h => HPQ c _ _ w (put_defers a _ _) h)
  have r0 := HKR.out.c 0 _ rfl
  have r1 := HKR.out.c 1 _ rfl
  have r2 := HKR.out.c 2 _ rfl
  have r3 := HKR.out.c 3 _ rfl
  have r4 := HKR.out.c 4 _ rfl
  have r5 := HKR.out.c 5 _ rfl
  have rf := HKR.out.fz
  clear hH1
  refine Hd.la 7 (fun K hK => ?_)
  go_simp
  refine hK.out _ _ ?_
  clear hK K
  try simp only [Act.put, Hd.sa, Hd.sz, Hd.ss]
  clear hH0
  go_wp2_with fail
  have H6 := six_item (A := wc.heap.size) (k := w.heap.size + 1) (v0 := .int .i64 14) (v1 := .string ⟨x.name.toArray⟩) (v2 := .int .i64 0) (v3 := .int .i64 0) (v4 := .int .i64 0) (v5 := .slice ia ks.length ic) hlt hB (show w.heap.size ≤ w.heap.size + 1 by omega) (by omega) HRL.out HNR4.out HITS.out HR4.out HMD.out
  have hk6 := blk_set6 (v0 := .int .i64 14) (v1 := .string ⟨x.name.toArray⟩) (v2 := .int .i64 0) (v3 := .int .i64 0) (v4 := .int .i64 0) (v5 := .slice ia ks.length ic) HKR.out
  obtain ⟨W6, hW6⟩ : ∃ W, (((((w4.setCell ⟨w.heap.size + 1, 0, none⟩ (.int .i64 14)).setCell ⟨w.heap.size + 1, 1, none⟩ (.string ⟨x.name.toArray⟩)).setCell ⟨w.heap.size + 1, 2, none⟩ (.int .i64 0)).setCell ⟨w.heap.size + 1, 3, none⟩ (.int .i64 0)).setCell ⟨w.heap.size + 1, 4, none⟩ (.int .i64 0)).setCell ⟨w.heap.size + 1, 5, none⟩ (.slice ia ks.length ic) = W := ⟨_, rfl⟩
  rw [hW6] at H6 hk6 ⊢
  have z0 := hk6.c 0 _ rfl
  have z1 := hk6.c 1 _ rfl
  have z2 := hk6.c 2 _ rfl
  have z3 := hk6.c 3 _ rfl
  have z4 := hk6.c 4 _ rfl
  have z5 := hk6.c 5 _ rfl
  refine bodyPost_ret (v := .agg #[.int .i64 14, .string ⟨x.name.toArray⟩, .int .i64 0, .int .i64 0, .int .i64 0, .slice ia ks.length ic]) (by simp [results, Tryz.results84, go_sem, z0, z1, z2, z3, z4, z5]) rfl ?_
  exact ⟨_, kv4, rfl, H6⟩
end
end Rv
end Go.Proofs.YtmmgfifpjifjnaaGreatDoor
namespace Go.Proofs.YtmmgfifpjifjnaaGreatDoor
open Go.RowKit
namespace Rv
open Bs Sm Tr
theorem step_join2 {P : Program} {ops : Array Oper} {o : Oper} {a : Act} {w : World} {K : Act → World → Prop} {Q : Exit → Act → World → Prop} {E' : Prop} (hg : o.guard = none) (s x : Operand) (t e : TypeId)
  (hop : o.op = Op.call { callee := Callee.builtin Builtin.append, args := #[s, x], argTypes := #[t, t] }) (tsl : P.underlying t = some (.slice e)) (i0 : TypeInfo) (z : Value) (size bytes : Nat)
  (h2 : P.info? e = some i0) (h3 : i0.zero = some z) (h4 : i0.size = size) (h5 : i0.bytes = bytes) (h6 : z.cells.size = size) (h7 : 0 < size) {B0 B n m : Nat} {v xv : Value} {xs ys : List Value}
  (hd : w.ownsRow B0 e size v n xs) (hs : a.eval s = v) (hx : a.eval x = xv) (hsrc : w.ownsRow B e size xv m ys) (hnil : m = 0 → xv = .slice none 0 0) (hone : ∀ u ∈ ys, u.oneCell' = true) (b1 : n + m ≤ maxLen) (b2 : (n + m) * bytes ≤ 140737488355328) (hB : B0 ≤ w.heap.size)
  (hK : ∀ v' w', w'.ownsRow B0 e size v' (n + m) (xs ++ ys) → w.grownBy w' v.ownBlock → (∀ g, v'.ownBlock = some g → v.ownBlock = some g ∨ g = w.heap.size) → K (a.put o.dst v') w') :
  if Region.wanted o (yielded ops a.tmps) = true then Oper.wp P o a w K Q else E' := by
 have hl := hsrc.1
 rcases Nat.eq_zero_or_pos m with h0 | h0
 · have hxv := hnil h0
   subst h0
   rw [hxv] at hx
   obtain rfl : ys = [] := List.eq_nil_of_length_eq_zero (by rw [hl]; simp)
   have hrun := run_append_owned_none (P := P) (w := w) B0 t o.type e i0 size tsl h2 v n xs hd
   have hw : Region.wanted o (yielded ops a.tmps) = true := by simp [Region.wanted, hg]
   rw [if_pos hw]
   unfold Oper.wp
   simp [execOp, hop, resolve, invoke, builtin, hs, hx, hrun, Result.andThen]
   exact hK v w (by simpa using hd) ⟨rfl, rfl, rfl, Nat.le_refl _, fun _ _ _ => rfl⟩ (fun g h => .inl h)
 rcases hsrc.2 with ⟨rfl, hm⟩ | ⟨g, cap, cur, rfl, hbg, hgb, hnc, hcm, _⟩
 · omega
 exact step_append_lies _ hg s x t hop B0 e i0 z size bytes tsl h2 h3 h4 h5 h6 h7 v n xs hs hd ⟨g, 0, none⟩ m cap ys hx hl (fun j u hj => World.ownsRow.cells hsrc (g := g) rfl j u hj) hone h0 b1 b2 hB _ rfl
  (fun g' cap' w' r1 r2 r3 _ => hK _ w' r1 r2 (fun j hj => by have hj : some g' = some j := hj; cases hj; exact r3))
theorem allR_len {F G : List Bytes} {sup : Bool} : ∀ {l : List Nd} {N : List Kn} {n : Nat} {is : List It} {n' : Nat}, allR F G sup l N n = .ok (is, n') → is.length = l.length
 | [], N, n, is, n', h => by rw [allR_nil] at h; cases h; rfl
 | x :: l, N, n, is, n', h => by
  rw [allR_cons] at h
  cases h1 : oneR F G sup x N n with
  | error E => rw [h1] at h; cases h
  | ok r =>
   obtain ⟨i, n1⟩ := r
   rw [h1] at h
   simp only at h
   cases h3 : allR F G sup l N n1 with
   | error E => rw [h3] at h; cases h
   | ok r3 =>
    obtain ⟨is2, n2⟩ := r3
    rw [h3] at h
    simp only [Except.ok.injEq, Prod.mk.injEq] at h
    obtain ⟨rfl, rfl⟩ := h
    rw [List.length_cons, List.length_cons, allR_len h3]
theorem row_of_blk {D d T : Nat} {c0 c1 c2 c3 c4 c5 : Value} {w : World} (hD : D ≤ d) (h : Blk T d #[c0, c1, c2, c3, c4, c5] w) : w.ownsRow D T 6 (.slice (some ⟨d, 0, none⟩) 1 1) 1 [c0, c1, c2, c3, c4, c5] :=
 ⟨rfl, .inr ⟨d, 1, _, rfl, hD, h, Nat.le_refl _, by unfold maxLen; omega, rfl, rfl⟩⟩
theorem own_form {w : World} {B e size n : Nat} {v : Value} {xs : List Value} (h : w.ownsRow B e size v n xs) (hn : 0 < n) : ∃ g cap, v = .slice (some ⟨g, 0, none⟩) n cap := by
 rcases h.2 with ⟨_, h0⟩ | ⟨g, cap, cur, e, _⟩
 · omega
 exact ⟨g, cap, e⟩
theorem one_it (vl : IL) : ∀ u ∈ flatI vl, u.oneCell' = true ∨ ∃ x ∈ vl, u = x.2 := by
 intro u hu
 unfold flatI at hu
 rw [List.mem_flatMap] at hu
 obtain ⟨x, hx, hu⟩ := hu
 simp only [itC, List.mem_cons, List.not_mem_nil, or_false] at hu
 rcases hu with rfl | rfl | rfl | rfl | rfl | rfl
 · exact .inl rfl
 · exact .inl rfl
 · exact .inl rfl
 · exact .inl rfl
 · exact .inl rfl
 exact .inr ⟨x, hx, rfl⟩
section
variable {B b D d A : Nat} {F G : List Bytes} {kv kv4 fv gv iv v' : Value} {N : List Kn} {n : Nat} {w X X' : World} {ks : List It}
theorem self_out {vl : IL} (hsub : ∀ x ∈ vl, Its (fun j => Nw D kv4 j ∧ j ≠ d) X x.2 x.1.kids) (hown : X'.ownsRow D IT 6 v' (1 + vl.length) (itC (leafI 8 0) (.slice none 0 0) ++ flatI vl)) (hgr : X.grownBy X' (some d)) (hat : ∀ g, v'.ownBlock = some g → some d = some g ∨ g = X.heap.size)
  (hdk : kv4.ownBlock ≠ some d) (hk4 : ∀ j, kv4.ownBlock = some j → j < X.heap.size) : Out D kv4 X' v' (leafI 8 0 :: vl.map (·.1)) := by
 have hsub2 : ∀ x ∈ vl, Its (fun j => Nw D kv4 j ∧ v'.ownBlock ≠ some j) X' x.2 x.1.kids := fun x hx => by
  have h1 : Its (fun j => (Nw D kv4 j ∧ j ≠ d) ∧ j < X.heap.size) X x.2 x.1.kids := (hsub x hx).mono (fun j hj hl => ⟨hj, hl⟩)
  have h2 := h1.kp (w' := X') ⟨hgr.size, fun j hj hl => hgr.block j hl (fun e => by cases e; exact hj.1.2 rfl)⟩
  refine h2.mono (fun j hj _ => ⟨hj.1.1, fun e => ?_⟩)
  rcases hat j e with h | h
  · cases h; exact hj.1.2 rfl
  have := hj.2; omega
 refine ⟨⟨(leafI 8 0, .slice none 0 0) :: vl, rfl, ?_, fun x hx => ?_⟩, fun j hj e => ?_, fun h => by cases h⟩
 · rw [List.length_cons, Nat.add_comm]; exact hown
 · rcases List.mem_cons.1 hx with rfl | hx
   · exact Its.nil _ _
   exact hsub2 x hx
 rcases hat j hj with h | h
 · cases h; exact hdk e
 have := hk4 j e; omega
theorem its_one {vl : IL} {S : Nat → Prop} (h : ∀ x ∈ vl, Its S X x.2 x.1.kids) : ∀ u ∈ flatI vl, u.oneCell' = true := fun u hu => by
 rcases one_it vl u hu with h1 | ⟨x, hx, rfl⟩
 · exact h1
 obtain ⟨a, c, e, -, -⟩ := (h x hx).form
 rw [e]; rfl
end
section
variable {B b : Nat} {F G : List Bytes} {kv fv gv : Value} {N : List Kn} {n : Nat} {w : World}
set_option maxRecDepth 100000 in
set_option maxHeartbeats 3200000 in
theorem send_super (x : Nd) (ka na : Option Addr) (kc nc : Nat) (h7 : x.kind = 7) (hs0 : superB x = true) (hO : OkN x) (hAll : AllOk x.kids.tail) (hcnt : x.kids.length ≤ 100000) (hR : Rs B b F G kv fv gv N n w) (hn : n ≤ 60) (hNn : N.length ≤ n) (hB : B ≤ w.heap.size) (hT : Tree (fun j => j < B) w (.slice ka x.kids.length kc) x.kids) :
  Calls Tryz.prog 84 #[.pointer (some ⟨b, 0, none⟩), .agg #[.int .i64 x.kind, .string ⟨x.name.toArray⟩, .int .i64 x.num, .slice ka x.kids.length kc, .slice na x.names.length nc, .int .i64 x.at_], .bool true] w (ItO B b F G kv fv gv N (oneR F G true x N n) w) := by
 have hlt := hR.blk.lt
 have hlo := hR.lo
 have hrl := hR.row.lt
 have hbA := alloc_bel w (.cells #[.int .i64 x.kind, .string ⟨x.name.toArray⟩, .int .i64 x.num, .slice ka x.kids.length kc, .slice na x.names.length nc, .int .i64 x.at_] NDT)
 have hKA := Blk.made (T := NDT) (cs := #[.int .i64 x.kind, .string ⟨x.name.toArray⟩, .int .i64 x.num, .slice ka x.kids.length kc, .slice na x.names.length nc, .int .i64 x.at_]) w
 have hzA : (w.alloc (.cells #[.int .i64 x.kind, .string ⟨x.name.toArray⟩, .int .i64 x.num, .slice ka x.kids.length kc, .slice na x.names.length nc, .int .i64 x.at_] NDT)).heap.size = w.heap.size + 1 := by simp
 obtain ⟨W1, halA⟩ : ∃ W, w.alloc (.cells #[.int .i64 x.kind, .string ⟨x.name.toArray⟩, .int .i64 x.num, .slice ka x.kids.length kc, .slice na x.names.length nc, .int .i64 x.at_] NDT) = W := ⟨_, rfl⟩
 rw [halA] at hbA hKA hzA
 have hbB := hbA.trans ((alloc_bel W1 (.cells #[.int .i64 0, .string ⟨#[]⟩, .int .i64 0, .int .i64 0, .int .i64 0, .slice none 0 0] IT)).mono (by omega))
 have hKB := Blk.made (T := IT) (cs := #[.int .i64 0, .string ⟨#[]⟩, .int .i64 0, .int .i64 0, .int .i64 0, .slice none 0 0]) W1
 have hKA := hKA.alloc (.cells #[.int .i64 0, .string ⟨#[]⟩, .int .i64 0, .int .i64 0, .int .i64 0, .slice none 0 0] IT)
 have hzB : (W1.alloc (.cells #[.int .i64 0, .string ⟨#[]⟩, .int .i64 0, .int .i64 0, .int .i64 0, .slice none 0 0] IT)).heap.size = W1.heap.size + 1 := by simp
 obtain ⟨W2, halB⟩ : ∃ W, W1.alloc (.cells #[.int .i64 0, .string ⟨#[]⟩, .int .i64 0, .int .i64 0, .int .i64 0, .slice none 0 0] IT) = W := ⟨_, rfl⟩
 rw [halB] at hbB hKA hKB hzB
 rw [hzA] at hKB hzB
 have hT2 := hT.kp (Kp.lt (hbB.mono hB))
 have HS := Lib.hid (fun w' (hb : Below W2.heap.size W2 w') => super_any (B := B) x ka na kc nc (hT2.kp (Kp.lt (hb.mono (by omega)))) hO (by have := hb.size; omega))
 obtain ⟨E, hE⟩ : ∃ E, allR F G true x.kids.tail N n = E := ⟨_, rfl⟩
 obtain ⟨y, l, hkl⟩ : ∃ y l, x.kids = y :: l := by
  cases hk : x.kids with
  | nil => exact absurd hk (hO.1 h7)
  | cons y l => exact ⟨y, l, rfl⟩
 have hpos : 0 < x.kids.length := by rw [hkl]; simp
 have htail : x.kids.tail = (x.kids.take x.kids.length).drop 1 := by rw [List.take_length, List.drop_one]
 obtain ⟨gb, off, y', ka', kc', na', nc', rfl, -, -, -, -, -, -⟩ := hT2.nth 0 hpos
 have hkcl := (hT2.len).2.1
 have hlen9 : ∀ is n', E = .ok (is, n') → is.length = x.kids.tail.length := fun is n' h => allR_len (hE.trans h)
 obtain ⟨ta, hta⟩ : ∃ ta : Option Addr, (if kc = 1 then some ⟨gb, off, none⟩ else some ⟨gb, off + 6, none⟩) = ta := ⟨_, rfl⟩
 have hTt : Tree (fun j => j < B) W2 (.slice ta (x.kids.length - 1) (kc - 1)) x.kids.tail := by
  by_cases h1 : kc = 1
  · have e0 : x.kids.tail.length = x.kids.length - 1 := List.length_tail
    have e1 : x.kids.length - 1 = 0 := by omega
    have e2 : kc - 1 = 0 := by omega
    rw [e2]
    exact Tree.empty _ _ _ e0 e1
  rw [if_neg h1] at hta
  rw [htail, ← hta]
  exact hT2.part 1 x.kids.length (by omega) (Nat.le_refl _) (.inr ⟨gb, off, rfl, by rw [Nat.one_mul]⟩)
 have h1k : (1 : Int) ≤ (x.kids.length : Int) := by omega
 have HA := fun w' (hb : Below W2.heap.size W2 w') => hAll B b F G kv fv gv (.slice ta (x.kids.length - 1) (kc - 1)) N n w' ((hR.bel hbB).bel hb) hn hNn (by have := hb.size; omega) (hTt.kp (Kp.lt (hb.mono (by omega))))
 rw [hE] at HA
 replace HA := Lib.hid HA
 obtain ⟨R, hRR⟩ : ∃ R, oneR F G true x N n = R := ⟨_, rfl⟩
 rw [hRR]
 unfold oneR at hRR
 rw [if_neg (by omega), if_neg (by omega), if_pos h7] at hRR
 rw [hs0, hE] at hRR
 simp only [Bool.true_and, if_true] at hRR
 have hk7 : (x.kind == 7) = true := by rw [h7]; rfl
 rw [hk7, Bool.true_and] at HS
 rw [hs0] at HS
 have c0 := hKA.c 0 _ rfl
 have c1 := hKA.c 1 _ rfl
 have c2 := hKA.c 2 _ rfl
 have c3 := hKA.c 3 _ rfl
 have c4 := hKA.c 4 _ rfl
 have c5 := hKA.c 5 _ rfl
 have HKA := Lib.hid hKA
 have HKB := Lib.hid hKB
 have HBB := Lib.hid hbB
 have HRR := Lib.hid hRR
 have HR := Lib.hid hR
 have HRL := Lib.hid hrl
 have HL9 := Lib.hid hlen9
 clear hT hT2 hAll hE hRR hk7 hKA hKB hbA hbB hR hrl hs0 h7 hO hTt htail hkl
 go_enter Tryz.func84, Tryz.ntmps84
 by_cases h13 : 13 < x.kids.length
 · have hd : decide ((12 : Int) < (x.kids.length : Int) - 1) = true := decide_eq_true (by omega)
   have hR := HRR.out
   rw [if_pos h13] at hR
   subst hR
   have HB9 := Lib.hid (HBB.out.mono hB)
   go_wp2_with fail
   exact ⟨rfl, rfl, HB9.out⟩
 have hd : decide ((12 : Int) < (x.kids.length : Int) - 1) = false := decide_eq_false (by omega)
 have hR := HRR.out
 rw [if_neg h13] at hR
 have HR2 := Lib.hid hR
 clear hR HRR h13
 go_upto_region 3 with fail
 go_cut [20] (fun s20 wx => s20 = .bool true ∧ Hid (Below W2.heap.size W2 wx))
 case first =>
  go_wp2_with fail
  refine (HS.out W2 (Below.refl _ _)).mono ?_; rintro e w3 ⟨rfl, hb3⟩
  have HB3 := Lib.hid hb3
  clear hb3
  go_wp2_with fail
  go_meet
  exact ⟨rfl, HB3⟩
 case rest =>
 obtain ⟨rfl, HB3⟩ := hcut
 have hs3 := HB3.out.size
 have hka3 := HKA.out.below HB3.out HKA.out.lt
 have HKR3 := Lib.hid (HKB.out.below HB3.out HKB.out.lt)
 have HKA3 := Lib.hid hka3
 have hc13 : wc.cell? ⟨w.heap.size, 1, none⟩ = some (.string ⟨x.name.toArray⟩) ∧ wc.cell? ⟨w.heap.size, 3, none⟩ = some (.slice (some ⟨gb, off, none⟩) x.kids.length kc) := ⟨hka3.c 1 _ rfl, hka3.c 3 _ rfl⟩
 have HC13 := Lib.hid hc13
 clear c0 c1 c2 c3 c4 c5 hka3 hc13
 go_upto_region 4 with fail
 refine region_pk (fun c a a' w h hq => (show a.defers = [] ∧ _ from ⟨h ▸ (show a'.defers = [] ∧ _ from hq).1, (show a'.defers = [] ∧ _ from hq).2⟩)) (fun HPQ => ?_)
 refine Hd.start (fun v => v.cell? ⟨w.heap.size, 1, none⟩ = some (.string ⟨x.name.toArray⟩) ∧ v.cell? ⟨w.heap.size, 3, none⟩ = some (.slice (some ⟨gb, off, none⟩) x.kids.length kc)) (by kernel_rfl) HC13.out (fun hH0 => ?_)
 refine Hd.tk 0 1 hH0 ?_ (hQ := fun c a w h => HPQ c _ _ w (put_defers a _ _) h)
 refine Hd.tk 1 10 hH0 ?_ (hQ := fun c a w h => HPQ c _ _ w (put_defers a _ _) h)
 refine Hd.tk 2 3 hH0 ?_ (hQ := fun c a w h => HPQ c _ _ w (put_defers a _ _) h)
 refine Hd.tk 4 8 hH0 ?_ (hQ := fun c a w h => HPQ c _ _ w (put_defers a _ _) h)
 refine Hd.tk 5 6 hH0 ?_ (hQ := fun c a w h => HPQ c _ _ w (put_defers a _ _) h)
 refine Hd.tk 6 7 hH0 ?_ (hQ := fun c a w h => HPQ c _ _ w (put_defers a _ _) h)
 refine Hd.tk 7 8 hH0 ?_ (hQ := fun c a w h => HPQ c _ _ w (put_defers a _ _) h)
 have hdr : wc.drew.heap.size = wc.heap.size := rfl
 have n0 : w.heap.size ≠ b := by omega
 have n1 : w.heap.size + 1 ≠ b := by omega
 have g0 : some w.heap.size ≠ kv.ownBlock := fun e => by have := (HRL.out _ e.symm).2; omega
 have g1 : some (w.heap.size + 1) ≠ kv.ownBlock := fun e => by have := (HRL.out _ e.symm).2; omega
 have HBd := Lib.hid (HB3.out.trans ((Below.refl _ wc).drew.mono hs3))
 have hkl := HKA3.out
 have HKAd : Hid (Blk NDT w.heap.size #[.int .i64 x.kind, .string ⟨x.name.toArray⟩, .int .i64 x.num, .slice (some ⟨gb, off, none⟩) x.kids.length kc, .slice na x.names.length nc, .int .i64 x.at_] wc.drew) := Lib.hid (HKA3.out.drewN 1)
 have HKRd : Hid (Blk IT (w.heap.size + 1) #[.int .i64 0, .string ⟨#[]⟩, .int .i64 0, .int .i64 0, .int .i64 0, .slice none 0 0] wc.drew) := Lib.hid (HKR3.out.drewN 1)
 have hcl : ∀ v, Blk NDT w.heap.size #[.int .i64 x.kind, .string ⟨x.name.toArray⟩, .int .i64 x.num, .slice (some ⟨gb, off, none⟩) x.kids.length kc, .slice na x.names.length nc, .int .i64 x.at_] v → v.cell? ⟨w.heap.size, 1, none⟩ = some (.string ⟨x.name.toArray⟩) ∧ v.cell? ⟨w.heap.size, 3, none⟩ = some (.slice (some ⟨gb, off, none⟩) x.kids.length kc) := fun v h => ⟨h.c 1 _ rfl, h.c 3 _ rfl⟩
 have HCL := Lib.hid hcl
 clear hkl hcl
 obtain ⟨i0, hi, hz0, hz1, hz2⟩ := info_parts (show (Tryz.prog.info? IT).map (fun i => (i.zero, i.size, i.bytes)) = some (some (.agg #[.int .i64 0, .string ⟨#[]⟩, .int .i64 0, .int .i64 0, .int .i64 0, .slice none 0 0]), 6, 72) by kernel_rfl)
 have tsl : Tryz.prog.underlying 35 = some (.slice IT) := by kernel_rfl
 refine Hd.two 3 8 (o := ?_) (p := ?_) ?_ ?_ (by kernel_rfl) (fun K hK => ?_) (fun K hK => ?_)
 rotate_left 2
 · simp only [Hd.ga, Hd.gs, Hd.gz]
   exact rfl
 · simp only [Hd.ga, Hd.gs, Hd.gz]
   exact rfl
 · have hbbL := alloc_bel wc.drew (.cells #[.int .i64 8, .string ⟨#[]⟩, .int .i64 0, .int .i64 0, .int .i64 0, .slice none 0 0] IT)
   have hMkL := Blk.made (T := IT) (cs := #[.int .i64 8, .string ⟨#[]⟩, .int .i64 0, .int .i64 0, .int .i64 0, .slice none 0 0]) wc.drew
   have hzL : (wc.drew.alloc (.cells #[.int .i64 8, .string ⟨#[]⟩, .int .i64 0, .int .i64 0, .int .i64 0, .slice none 0 0] IT)).heap.size = wc.drew.heap.size + 1 := by simp
   have hkaL := HKAd.out.alloc (.cells #[.int .i64 8, .string ⟨#[]⟩, .int .i64 0, .int .i64 0, .int .i64 0, .slice none 0 0] IT)
   have hkrL := HKRd.out.alloc (.cells #[.int .i64 8, .string ⟨#[]⟩, .int .i64 0, .int .i64 0, .int .i64 0, .slice none 0 0] IT)
   obtain ⟨WL, halL⟩ : ∃ W, wc.drew.alloc (.cells #[.int .i64 8, .string ⟨#[]⟩, .int .i64 0, .int .i64 0, .int .i64 0, .slice none 0 0] IT) = W := ⟨_, rfl⟩
   rw [halL] at hbbL hMkL hzL hkaL hkrL
   have hzL : WL.heap.size = wc.heap.size + 1 := hzL
   have hMkL : Blk IT wc.heap.size #[.int .i64 8, .string ⟨#[]⟩, .int .i64 0, .int .i64 0, .int .i64 0, .slice none 0 0] WL := hMkL
   have HBL := Lib.hid (HBd.out.trans (hbbL.mono (by omega)))
   have HKAL := Lib.hid hkaL
   have HKRL := Lib.hid hkrL
   have HML := Lib.hid hMkL
   clear hbbL hMkL hkaL hkrL
   go_simp
   clear halL
   refine hK.out _ _ (HCL.out _ HKAL.out) (fun hH1 => ?_)
   clear hK K
   try simp only [Act.put, Hd.sa, Hd.sz, Hd.ss]
   clear hH0
   refine Hd.on 8 (fun K hK => ?_)
   go_simp
   refine (HA.out WL HBL.out).mono ?_; intro e w4 ht
   cases E with
   | error y =>
    obtain ⟨rfl, hb4⟩ := ht
    have hR := HR2.out
    simp only at hR
    subst hR
    have HB9 := Lib.hid ((HBB.out.mono hB).trans ((HBL.out.mono (by omega)).trans hb4))
    exact ⟨rfl, rfl, HB9.out⟩
   | ok y =>
    obtain ⟨ks, n4⟩ := y
    obtain ⟨iv, kv4, rfl, hout, hr4, hn4, hm4⟩ := ht
    have hR := HR2.out
    simp only at hR
    subst hR
    have hm4s := hm4.size
    have hkaX := blk_mv2 HKAL.out hm4 n0 g0
    have hkrX := blk_mv2 HKRL.out hm4 n1 g1
    obtain ⟨⟨vl, rfl, hrow, hsub⟩, hap, hnil⟩ := hout
    have hk4 := hr4.row.lt
    have hMX : Mv2 b kv.ownBlock w w4 := (Mv2.of_bel (HBB.out.trans (HBL.out.mono (by omega)))).trans (Near.refl _ _) hm4
    have hlf := blk_mv2 HML.out hm4 (by omega) (fun e => by have := (HRL.out _ e.symm).2; omega)
    have hdrow : w4.ownsRow (w.heap.size + 1 + 1) IT 6 (.slice (some ⟨wc.heap.size, 0, none⟩) 1 1) 1 (itC (leafI 8 0) (.slice none 0 0)) := row_of_blk (by omega) hlf
    have hkd : kv4.ownBlock ≠ some wc.heap.size := fun e => by
     rcases hn4 _ e with h | h
     · have := (HRL.out _ h).2; omega
     omega
    have hsubX : ∀ y ∈ vl, Its (fun j => Nw (w.heap.size + 1 + 1) kv4 j ∧ j ≠ wc.heap.size) w4 y.2 y.1.kids := fun y hy => (hsub y hy).mono (fun j hj _ => ⟨⟨by have := hj.1.1; omega, hj.1.2⟩, by have := hj.1.1; omega⟩)
    have hnx : ∀ j, kv4.ownBlock = some j → kv.ownBlock = some j ∨ w.heap.size + 1 + 1 ≤ j := fun j hj => by
     rcases hn4 j hj with h | h
     · exact .inl h
     exact .inr (by omega)
    go_wp2_with fail
    refine hK.out _ _ (HCL.out _ hkaX) (fun hH2 => ?_)
    clear hK K
    try simp only [Act.put, Hd.sa, Hd.sz, Hd.ss]
    clear hH1
    have hlv : vl.length ≤ 100000 := by
     have := HL9.out _ _ rfl
     rw [List.length_map, List.length_tail] at this
     omega
    have HKAX := Lib.hid hkaX
    have HKRX := Lib.hid hkrX
    have HDRX := Lib.hid hdrow
    have HSRX := Lib.hid hrow
    have HSUBX := Lib.hid hsubX
    have HNILX := Lib.hid (show vl.length = 0 → iv = .slice none 0 0 from fun h => hnil (by rw [List.eq_nil_of_length_eq_zero h]; rfl))
    have HKDX := Lib.hid hkd
    have HK4X := Lib.hid hk4
    have HRX := Lib.hid hr4
    have HMX := Lib.hid hMX
    have HNX := Lib.hid hnx
    clear hkaX hkrX hdrow hrow hsubX hnil hkd hk4 hr4 hMX hnx hm4 hn4 hap hsub hlf
    refine Hd.on 9 (fun K hK => ?_)
    refine step_join2 rfl (.tmp 24) (.tmp 29) 35 IT rfl tsl i0 (.agg #[.int .i64 0, .string ⟨#[]⟩, .int .i64 0, .int .i64 0, .int .i64 0, .slice none 0 0]) 6 72 hi hz0 hz1 hz2 rfl (by decide) HDRX.out (by simp [Act.eval]) (by simp [Act.eval]) HSRX.out HNILX.out (its_one HSUBX.out) (by unfold maxLen; omega) (by omega) (by omega) ?_
    intro v' w5 hown hgrow hat
    have hgrow : w4.grownBy w5 (some wc.heap.size) := hgrow
    have hout5 := self_out HSUBX.out hown hgrow hat HKDX.out (fun j hj => (HK4X.out j hj).2)
    obtain ⟨g, cap, rfl⟩ := own_form hown (by omega)
    have hr5 := HRX.out.grown hgrow (fun e => by cases e; omega) (fun j hj e => by cases e; exact HKDX.out hj) (fun j e => by cases e; omega)
    have hM5 := HMX.out.grown hgrow (fun j e => by cases e; omega)
    have hka5 : Blk NDT w.heap.size #[.int .i64 x.kind, .string ⟨x.name.toArray⟩, .int .i64 x.num, .slice (some ⟨gb, off, none⟩) x.kids.length kc, .slice na x.names.length nc, .int .i64 x.at_] w5 := (hgrow.block _ HKAX.out.lt (fun e => by have := Option.some.inj e; omega)).trans HKAX.out
    have hkr5 : Blk IT (w.heap.size + 1) #[.int .i64 0, .string ⟨#[]⟩, .int .i64 0, .int .i64 0, .int .i64 0, .slice none 0 0] w5 := (hgrow.block _ HKRX.out.lt (fun e => by have := Option.some.inj e; omega)).trans HKRX.out
    have HKR := Lib.hid hkr5
    have HC5 := Lib.hid (HCL.out _ hka5)
    have HO5 := Lib.hid hout5.its
    have HR5 := Lib.hid hr5
    have HM5 := Lib.hid hM5
    clear hown hgrow hat hout5 hr5 hM5 hka5 hkr5 HKAX HKRX HDRX HSRX HSUBX HNILX HKDX HRX HMX
    refine hK.out _ _ HC5.out (fun hH9 => ?_)
    clear hK K
    try simp only [Act.put, Hd.sa, Hd.sz, Hd.ss]
    refine Hd.tk 10 11 hH9 ?_ (hQ := fun c a w h => HPQ c _ _ w (put_defers a _ _) h)
    have r0 := HKR.out.c 0 _ rfl
    have r1 := HKR.out.c 1 _ rfl
    have r2 := HKR.out.c 2 _ rfl
    have r3 := HKR.out.c 3 _ rfl
    have r4 := HKR.out.c 4 _ rfl
    have r5 := HKR.out.c 5 _ rfl
    have rf := HKR.out.fz
    clear hH9
    refine Hd.la 11 (fun K hK => ?_)
    go_simp
    refine hK.out _ _ ?_
    clear hK K
    try simp only [Act.put, Hd.sa, Hd.sz, Hd.ss]
    go_wp2_with fail
    have H6 := six_item (A := w.heap.size + 1 + 1) (k := w.heap.size + 1) (v0 := .int .i64 15) (v1 := .string ⟨x.name.toArray⟩) (v2 := .int .i64 0) (v3 := .int .i64 0) (v4 := .int .i64 0) (v5 := .slice (some ⟨g, 0, none⟩) (1 + vl.length) cap) hlt hB (show w.heap.size ≤ w.heap.size + 1 by omega) (by omega) HRL.out HNX.out HO5.out HR5.out HM5.out
    have hk6 := blk_set6 (v0 := .int .i64 15) (v1 := .string ⟨x.name.toArray⟩) (v2 := .int .i64 0) (v3 := .int .i64 0) (v4 := .int .i64 0) (v5 := .slice (some ⟨g, 0, none⟩) (1 + vl.length) cap) HKR.out
    obtain ⟨W6, hW6⟩ : ∃ W, (((((w5.setCell ⟨w.heap.size + 1, 0, none⟩ (.int .i64 15)).setCell ⟨w.heap.size + 1, 1, none⟩ (.string ⟨x.name.toArray⟩)).setCell ⟨w.heap.size + 1, 2, none⟩ (.int .i64 0)).setCell ⟨w.heap.size + 1, 3, none⟩ (.int .i64 0)).setCell ⟨w.heap.size + 1, 4, none⟩ (.int .i64 0)).setCell ⟨w.heap.size + 1, 5, none⟩ (.slice (some ⟨g, 0, none⟩) (1 + vl.length) cap) = W := ⟨_, rfl⟩
    rw [hW6] at H6 hk6 ⊢
    have z0 := hk6.c 0 _ rfl
    have z1 := hk6.c 1 _ rfl
    have z2 := hk6.c 2 _ rfl
    have z3 := hk6.c 3 _ rfl
    have z4 := hk6.c 4 _ rfl
    have z5 := hk6.c 5 _ rfl
    refine bodyPost_ret (v := .agg #[.int .i64 15, .string ⟨x.name.toArray⟩, .int .i64 0, .int .i64 0, .int .i64 0, .slice (some ⟨g, 0, none⟩) (1 + vl.length) cap]) (by simp [results, Tryz.results84, go_sem, z0, z1, z2, z3, z4, z5]) rfl ?_
    exact ⟨_, kv4, rfl, H6⟩
 go_simp
 refine (HA.out wc.drew HBd.out).mono ?_; intro e w4 ht
 cases E with
 | error y =>
  obtain ⟨rfl, hb4⟩ := ht
  have hR := HR2.out
  simp only at hR
  subst hR
  have HB9 := Lib.hid ((HBB.out.mono hB).trans ((HBd.out.mono (by omega)).trans hb4))
  exact ⟨rfl, rfl, HB9.out⟩
 | ok y =>
  obtain ⟨ks, n4⟩ := y
  obtain ⟨iv, kv4, rfl, hout, hr4, hn4, hm4⟩ := ht
  have hR := HR2.out
  simp only at hR
  subst hR
  have hm4s := hm4.size
  have hkaX := blk_mv2 HKAd.out hm4 n0 g0
  have hkrX := blk_mv2 HKRd.out hm4 n1 g1
  obtain ⟨⟨vl, rfl, hrow, hsub⟩, hap, hnil⟩ := hout
  have hk4 := hr4.row.lt
  have hMX : Mv2 b kv.ownBlock w w4 := (Mv2.of_bel (HBB.out.trans (HBd.out.mono (by omega)))).trans (Near.refl _ _) hm4
  go_wp2_with fail
  refine hK.out _ _ (HCL.out _ hkaX) (fun hH1 => ?_)
  clear hK K
  try simp only [Act.put, Hd.sa, Hd.sz, Hd.ss]
  clear hH0
  have hbbL := alloc_bel w4 (.cells #[.int .i64 8, .string ⟨#[]⟩, .int .i64 0, .int .i64 0, .int .i64 0, .slice none 0 0] IT)
  have hMkL := Blk.made (T := IT) (cs := #[.int .i64 8, .string ⟨#[]⟩, .int .i64 0, .int .i64 0, .int .i64 0, .slice none 0 0]) w4
  have hzL : (w4.alloc (.cells #[.int .i64 8, .string ⟨#[]⟩, .int .i64 0, .int .i64 0, .int .i64 0, .slice none 0 0] IT)).heap.size = w4.heap.size + 1 := by simp
  obtain ⟨WL, halL⟩ : ∃ W, w4.alloc (.cells #[.int .i64 8, .string ⟨#[]⟩, .int .i64 0, .int .i64 0, .int .i64 0, .slice none 0 0] IT) = W := ⟨_, rfl⟩
  rw [halL] at hbbL hMkL hzL
  have hdrow : WL.ownsRow (w.heap.size + 1 + 1) IT 6 (.slice (some ⟨w4.heap.size, 0, none⟩) 1 1) 1 (itC (leafI 8 0) (.slice none 0 0)) := row_of_blk (by omega) hMkL
  have hkd : kv4.ownBlock ≠ some w4.heap.size := fun e => by have := (hk4 _ e).2; omega
  have hsubX : ∀ y ∈ vl, Its (fun j => Nw (w.heap.size + 1 + 1) kv4 j ∧ j ≠ w4.heap.size) WL y.2 y.1.kids := fun y hy => ((hsub y hy).mono (fun j hj hl => ⟨⟨by have := hj.1.1; omega, hj.1.2⟩, by omega⟩)).bel hbbL
  have hnx : ∀ j, kv4.ownBlock = some j → kv.ownBlock = some j ∨ w.heap.size + 1 + 1 ≤ j := fun j hj => by
   rcases hn4 j hj with h | h
   · exact .inl h
   exact .inr (by omega)
  have hkaX := hkaX.below hbbL hkaX.lt
  have hkrX := hkrX.below hbbL hkrX.lt
  have hrow := own_below hrow hbbL
  have hMX := hMX.bel hbbL
  have hk4 : ∀ k, kv4.ownBlock = some k → B ≤ k ∧ k < WL.heap.size := fun k hk => ⟨(hk4 k hk).1, by have := (hk4 k hk).2; omega⟩
  have hr4 := hr4.bel hbbL
  have HKA9 := Lib.hid hkaX
  clear hbbL hMkL
  refine Hd.on 3 (fun K hK => ?_)
  go_simp
  clear halL
  refine hK.out _ _ (HCL.out _ HKA9.out) (fun hH2 => ?_)
  clear hK K
  try simp only [Act.put, Hd.sa, Hd.sz, Hd.ss]
  clear hH1
  have hlv : vl.length ≤ 100000 := by
   have := HL9.out _ _ rfl
   rw [List.length_map, List.length_tail] at this
   omega
  have HKAX := Lib.hid hkaX
  have HKRX := Lib.hid hkrX
  have HDRX := Lib.hid hdrow
  have HSRX := Lib.hid hrow
  have HSUBX := Lib.hid hsubX
  have HNILX := Lib.hid (show vl.length = 0 → iv = .slice none 0 0 from fun h => hnil (by rw [List.eq_nil_of_length_eq_zero h]; rfl))
  have HKDX := Lib.hid hkd
  have HK4X := Lib.hid hk4
  have HRX := Lib.hid hr4
  have HMX := Lib.hid hMX
  have HNX := Lib.hid hnx
  clear hkaX hkrX hdrow hrow hsubX hnil hkd hk4 hr4 hMX hnx hm4 hn4 hap hsub
  refine Hd.on 9 (fun K hK => ?_)
  refine step_join2 rfl (.tmp 24) (.tmp 29) 35 IT rfl tsl i0 (.agg #[.int .i64 0, .string ⟨#[]⟩, .int .i64 0, .int .i64 0, .int .i64 0, .slice none 0 0]) 6 72 hi hz0 hz1 hz2 rfl (by decide) HDRX.out (by simp [Act.eval]) (by simp [Act.eval]) HSRX.out HNILX.out (its_one HSUBX.out) (by unfold maxLen; omega) (by omega) (by omega) ?_
  intro v' w5 hown hgrow hat
  have hgrow : WL.grownBy w5 (some w4.heap.size) := hgrow
  have hout5 := self_out HSUBX.out hown hgrow hat HKDX.out (fun j hj => (HK4X.out j hj).2)
  obtain ⟨g, cap, rfl⟩ := own_form hown (by omega)
  have hr5 := HRX.out.grown hgrow (fun e => by cases e; omega) (fun j hj e => by cases e; exact HKDX.out hj) (fun j e => by cases e; omega)
  have hM5 := HMX.out.grown hgrow (fun j e => by cases e; omega)
  have hka5 : Blk NDT w.heap.size #[.int .i64 x.kind, .string ⟨x.name.toArray⟩, .int .i64 x.num, .slice (some ⟨gb, off, none⟩) x.kids.length kc, .slice na x.names.length nc, .int .i64 x.at_] w5 := (hgrow.block _ HKAX.out.lt (fun e => by have := Option.some.inj e; omega)).trans HKAX.out
  have hkr5 : Blk IT (w.heap.size + 1) #[.int .i64 0, .string ⟨#[]⟩, .int .i64 0, .int .i64 0, .int .i64 0, .slice none 0 0] w5 := (hgrow.block _ HKRX.out.lt (fun e => by have := Option.some.inj e; omega)).trans HKRX.out
  have HKR := Lib.hid hkr5
  have HC5 := Lib.hid (HCL.out _ hka5)
  have HO5 := Lib.hid hout5.its
  have HR5 := Lib.hid hr5
  have HM5 := Lib.hid hM5
  clear hown hgrow hat hout5 hr5 hM5 hka5 hkr5 HKAX HKRX HDRX HSRX HSUBX HNILX HKDX HRX HMX
  refine hK.out _ _ HC5.out (fun hH9 => ?_)
  clear hK K
  try simp only [Act.put, Hd.sa, Hd.sz, Hd.ss]
  refine Hd.tk 10 11 hH9 ?_ (hQ := fun c a w h => HPQ c _ _ w (put_defers a _ _) h)
  have r0 := HKR.out.c 0 _ rfl
  have r1 := HKR.out.c 1 _ rfl
  have r2 := HKR.out.c 2 _ rfl
  have r3 := HKR.out.c 3 _ rfl
  have r4 := HKR.out.c 4 _ rfl
  have r5 := HKR.out.c 5 _ rfl
  have rf := HKR.out.fz
  clear hH9
  refine Hd.la 11 (fun K hK => ?_)
  go_simp
  refine hK.out _ _ ?_
  clear hK K
  try simp only [Act.put, Hd.sa, Hd.sz, Hd.ss]
  go_wp2_with fail
  have H6 := six_item (A := w.heap.size + 1 + 1) (k := w.heap.size + 1) (v0 := .int .i64 15) (v1 := .string ⟨x.name.toArray⟩) (v2 := .int .i64 0) (v3 := .int .i64 0) (v4 := .int .i64 0) (v5 := .slice (some ⟨g, 0, none⟩) (1 + vl.length) cap) hlt hB (show w.heap.size ≤ w.heap.size + 1 by omega) (by omega) HRL.out HNX.out HO5.out HR5.out HM5.out
  have hk6 := blk_set6 (v0 := .int .i64 15) (v1 := .string ⟨x.name.toArray⟩) (v2 := .int .i64 0) (v3 := .int .i64 0) (v4 := .int .i64 0) (v5 := .slice (some ⟨g, 0, none⟩) (1 + vl.length) cap) HKR.out
  obtain ⟨W6, hW6⟩ : ∃ W, (((((w5.setCell ⟨w.heap.size + 1, 0, none⟩ (.int .i64 15)).setCell ⟨w.heap.size + 1, 1, none⟩ (.string ⟨x.name.toArray⟩)).setCell ⟨w.heap.size + 1, 2, none⟩ (.int .i64 0)).setCell ⟨w.heap.size + 1, 3, none⟩ (.int .i64 0)).setCell ⟨w.heap.size + 1, 4, none⟩ (.int .i64 0)).setCell ⟨w.heap.size + 1, 5, none⟩ (.slice (some ⟨g, 0, none⟩) (1 + vl.length) cap) = W := ⟨_, rfl⟩
  rw [hW6] at H6 hk6 ⊢
  have z0 := hk6.c 0 _ rfl
  have z1 := hk6.c 1 _ rfl
  have z2 := hk6.c 2 _ rfl
  have z3 := hk6.c 3 _ rfl
  have z4 := hk6.c 4 _ rfl
  have z5 := hk6.c 5 _ rfl
  refine bodyPost_ret (v := .agg #[.int .i64 15, .string ⟨x.name.toArray⟩, .int .i64 0, .int .i64 0, .int .i64 0, .slice (some ⟨g, 0, none⟩) (1 + vl.length) cap]) (by simp [results, Tryz.results84, go_sem, z0, z1, z2, z3, z4, z5]) rfl ?_
  exact ⟨_, kv4, rfl, H6⟩
end
end Rv
end Go.Proofs.YtmmgfifpjifjnaaGreatDoor
namespace Go.Proofs.YtmmgfifpjifjnaaGreatDoor
open Go.RowKit
namespace Rv
open Bs Sm Tr
section
variable {A B b : Nat} {F G : List Bytes} {kv fv gv v : Value} {N : List Kn} {n : Nat} {w W : World} {l : List It}
theorem glu_stepS (sup : Bool) (x : Nd) (l : List Nd) (o : List It) : gluI o (allR F G sup (x :: l) N n) = match oneR F G sup x N n with
  | .error E => .error E
  | .ok (i, n1) => gluI (o ++ [i]) (allR F G sup l N n1) := by
 rw [allR_cons]
 cases oneR F G sup x N n with
 | error E => rfl
 | ok r =>
  obtain ⟨i, n1⟩ := r
  simp only
  cases allR F G sup l N n1 with
  | error E => rfl
  | ok r2 =>
   obtain ⟨is, n2⟩ := r2
   simp [gluI]
theorem Out.far {p : Addr} (h : Out A kv W v l) (hp : p.block < A) (u : Value) : Out A kv (W.setCell p u) v l :=
 ⟨h.1.kp (by simp [World.setCell]) (fun j hl hj => Below.heap_setCell _ p u j (fun e => by
  rcases hj with hj | hj
  · have := hj.1; omega
  have := (h.1.lt j hj).1; omega)), h.2.1, h.2.2⟩
set_option maxRecDepth 100000 in
set_option maxHeartbeats 3200000 in
theorem cascade_any (x : Nd) (h8 : x.kind = 8) (hO : OkN x) (hOr : OkL x.kids) (hAll : ∀ y ∈ x.kids, AllOk y.kids) (hcnt : cntL x.kids ≤ 100000) : OneOk 85 x (fun F G N n => oneR F G true x N n) := by
 intro B b F G kv fv gv ka na kc nc N n w hR hn hNn hB hT hNm
 have hlt := hR.blk.lt
 have hlo := hR.lo
 have hrl := hR.row.lt
 have hbA := alloc_bel w (.cells #[.int .i64 x.kind, .string ⟨x.name.toArray⟩, .int .i64 x.num, .slice ka x.kids.length kc, .slice na x.names.length nc, .int .i64 x.at_] NDT)
 have hKA := Blk.made (T := NDT) (cs := #[.int .i64 x.kind, .string ⟨x.name.toArray⟩, .int .i64 x.num, .slice ka x.kids.length kc, .slice na x.names.length nc, .int .i64 x.at_]) w
 have hzA : (w.alloc (.cells #[.int .i64 x.kind, .string ⟨x.name.toArray⟩, .int .i64 x.num, .slice ka x.kids.length kc, .slice na x.names.length nc, .int .i64 x.at_] NDT)).heap.size = w.heap.size + 1 := by simp
 obtain ⟨W1, halA⟩ : ∃ W, w.alloc (.cells #[.int .i64 x.kind, .string ⟨x.name.toArray⟩, .int .i64 x.num, .slice ka x.kids.length kc, .slice na x.names.length nc, .int .i64 x.at_] NDT) = W := ⟨_, rfl⟩
 rw [halA] at hbA hKA hzA
 have hbB := hbA.trans ((alloc_bel W1 (.cells #[.int .i64 0, .string ⟨#[]⟩, .int .i64 0, .int .i64 0, .int .i64 0, .slice none 0 0] IT)).mono (by omega))
 have hKB := Blk.made (T := IT) (cs := #[.int .i64 0, .string ⟨#[]⟩, .int .i64 0, .int .i64 0, .int .i64 0, .slice none 0 0]) W1
 have hKA := hKA.alloc (.cells #[.int .i64 0, .string ⟨#[]⟩, .int .i64 0, .int .i64 0, .int .i64 0, .slice none 0 0] IT)
 have hzB : (W1.alloc (.cells #[.int .i64 0, .string ⟨#[]⟩, .int .i64 0, .int .i64 0, .int .i64 0, .slice none 0 0] IT)).heap.size = W1.heap.size + 1 := by simp
 obtain ⟨W2, halB⟩ : ∃ W, W1.alloc (.cells #[.int .i64 0, .string ⟨#[]⟩, .int .i64 0, .int .i64 0, .int .i64 0, .slice none 0 0] IT) = W := ⟨_, rfl⟩
 rw [halB] at hbB hKA hKB hzB
 rw [hzA] at hKB hzB
 have hbZ := hbB.trans ((alloc_bel W2 (.cells #[.int .i64 0, .string ⟨#[]⟩, .int .i64 0, .int .i64 0, .int .i64 0, .slice none 0 0] IT)).mono (by omega))
 have hKZ := Blk.made (T := IT) (cs := #[.int .i64 0, .string ⟨#[]⟩, .int .i64 0, .int .i64 0, .int .i64 0, .slice none 0 0]) W2
 have hKA := hKA.alloc (.cells #[.int .i64 0, .string ⟨#[]⟩, .int .i64 0, .int .i64 0, .int .i64 0, .slice none 0 0] IT)
 have hKB := hKB.alloc (.cells #[.int .i64 0, .string ⟨#[]⟩, .int .i64 0, .int .i64 0, .int .i64 0, .slice none 0 0] IT)
 have hzC : (W2.alloc (.cells #[.int .i64 0, .string ⟨#[]⟩, .int .i64 0, .int .i64 0, .int .i64 0, .slice none 0 0] IT)).heap.size = W2.heap.size + 1 := by simp
 obtain ⟨WZ, halC⟩ : ∃ W, W2.alloc (.cells #[.int .i64 0, .string ⟨#[]⟩, .int .i64 0, .int .i64 0, .int .i64 0, .slice none 0 0] IT) = W := ⟨_, rfl⟩
 rw [halC] at hbZ hKA hKB hKZ hzC
 rw [hzB] at hKZ hzC
 have hbC := bel_set6 (k := w.heap.size + 1 + 1) (v0 := .int .i64 16) (v1 := .string ⟨#[]⟩) (v2 := .int .i64 0) (v3 := .int .i64 0) (v4 := .int .i64 0) (v5 := .slice none 0 0) hbZ (show w.heap.size ≤ w.heap.size + 1 + 1 by omega)
 have hKC := blk_set6 (v0 := .int .i64 16) (v1 := .string ⟨#[]⟩) (v2 := .int .i64 0) (v3 := .int .i64 0) (v4 := .int .i64 0) (v5 := .slice none 0 0) hKZ
 have hKA := blk_far6 (k := w.heap.size + 1 + 1) (v0 := .int .i64 16) (v1 := .string ⟨#[]⟩) (v2 := .int .i64 0) (v3 := .int .i64 0) (v4 := .int .i64 0) (v5 := .slice none 0 0) hKA (by omega)
 have hKB := blk_far6 (k := w.heap.size + 1 + 1) (v0 := .int .i64 16) (v1 := .string ⟨#[]⟩) (v2 := .int .i64 0) (v3 := .int .i64 0) (v4 := .int .i64 0) (v5 := .slice none 0 0) hKB (by omega)
 have q0 := hKZ.c 0 _ rfl
 have q1 := hKZ.c 1 _ rfl
 have q2 := hKZ.c 2 _ rfl
 have q3 := hKZ.c 3 _ rfl
 have q4 := hKZ.c 4 _ rfl
 have q5 := hKZ.c 5 _ rfl
 have qf := hKZ.fz
 obtain ⟨W3, hW3⟩ : ∃ W, (((((WZ.setCell ⟨w.heap.size + 1 + 1, 0, none⟩ (.int .i64 16)).setCell ⟨w.heap.size + 1 + 1, 1, none⟩ (.string ⟨#[]⟩)).setCell ⟨w.heap.size + 1 + 1, 2, none⟩ (.int .i64 0)).setCell ⟨w.heap.size + 1 + 1, 3, none⟩ (.int .i64 0)).setCell ⟨w.heap.size + 1 + 1, 4, none⟩ (.int .i64 0)).setCell ⟨w.heap.size + 1 + 1, 5, none⟩ (.slice none 0 0) = W := ⟨_, rfl⟩
 have hz3 : W3.heap.size = w.heap.size + 1 + 1 + 1 := by rw [← hW3]; simp [World.setCell]; omega
 rw [hW3] at hbC hKA hKB hKC
 obtain ⟨i0, hi, hz0, hz1, hz2⟩ := info_parts (show (Tryz.prog.info? IT).map (fun i => (i.zero, i.size, i.bytes)) = some (some (.agg #[.int .i64 0, .string ⟨#[]⟩, .int .i64 0, .int .i64 0, .int .i64 0, .slice none 0 0]), 6, 72) by kernel_rfl)
 have tsl : Tryz.prog.underlying 35 = some (.slice IT) := by kernel_rfl
 obtain ⟨R, hRR⟩ : ∃ R, oneR F G true x N n = R := ⟨_, rfl⟩
 simp only [hRR]
 unfold oneR at hRR
 rw [if_neg (by omega), if_neg (by omega), if_neg (by omega), if_pos h8] at hRR
 obtain ⟨R1, hR1⟩ : ∃ R, allR F G false x.kids N n = R := ⟨_, rfl⟩
 rw [hR1] at hRR
 obtain ⟨ll, hll⟩ : ∃ k, x.kids.length = k := ⟨_, rfl⟩
 have hlc := len_le_cnt x.kids
 rw [hll] at hlc
 have hg0 : gluI [] (allR F G false (x.kids.drop 0) N n) = R1 := by
  rw [List.drop_zero, hR1]
  cases R1 with
  | error E => rfl
  | ok r => rfl
 have HG0 := Lib.hid hg0
 have HLL := Lib.hid hll
 have HT := Lib.hid hT
 have HRR := Lib.hid hRR
 have HRL := Lib.hid hrl
 have HALL := Lib.hid hAll
 have HO := Lib.hid hO
 have HOR := Lib.hid hOr
 have c3 := hKA.c 3 _ rfl
 have HR3 := Lib.hid (hR.bel hbC)
 have HKB := Lib.hid hKB
 have HKC := Lib.hid hKC
 have HBC := Lib.hid hbC
 rw [hll] at hT
 rw [hll] at c3
 rw [hll]
 replace HT := Lib.hid hT
 have HH8 := Lib.hid h8
 clear hg0 hll hT hR hrl hRR hR1 hAll hO hOr hKA hKB hKC hKZ hbA hbB hbC hbZ h8 hNm
 go_enter Tryz.func85, Tryz.ntmps85
 rw [HLL.out] at halA
 go_wp2_with fail
 clear q0 q1 q2 q3 q4 q5 qf hW3 halA halB halC
 go_loopw [12] (fun yy wr => ∃ (k m : Nat) (out : List It) (vo kv' : Value), yy = .int .i64 (k : Int) ∧ k ≤ ll ∧ out.length = k ∧ N.length ≤ m ∧ m ≤ 60 ∧ Hid (gluI out (allR F G false (x.kids.drop k) N m) = R1) ∧ Hid (Blk IT (w.heap.size + 1) #[.int .i64 0, .string ⟨#[]⟩, .int .i64 0, .int .i64 0, .int .i64 0, .slice none 0 0] wr) ∧ Hid (Blk IT (w.heap.size + 1 + 1) #[.int .i64 16, .string ⟨#[]⟩, .int .i64 0, .int .i64 0, .int .i64 0, vo] wr) ∧ Hid (Out (w.heap.size + 1 + 1 + 1) kv' wr vo out) ∧ Hid (Rs B b F G kv' fv gv N m wr) ∧ Hid (∀ j, kv'.ownBlock = some j → kv.ownBlock = some j ∨ w.heap.size + 1 + 1 + 1 ≤ j) ∧ Hid (Mv2 b kv.ownBlock w wr) ∧ w.heap.size + 1 + 1 + 1 ≤ wr.heap.size) (fun yy _ => ll - (intOf yy).toNat)
 case atStart => exact ⟨0, n, [], .slice none 0 0, kv, rfl, by omega, rfl, hNn, hn, HG0, HKB, HKC, Lib.hid (Out.nil _ _ _), HR3, Lib.hid (fun j hj => .inl hj), Lib.hid (Mv2.of_bel HBC.out), by omega⟩
 obtain ⟨k, m, out, vo, kv', rfl, hk, hol, hNm, hm60, HE, HKr, HKo, HOu, HRs, HNR, HMV, hsz⟩ := hrel
 have HBB := Lib.hid (HMV.out.below hlo (fun j hj => (HRL.out j hj).1) hB)
 clear c3 HR3 HBC HG0 HKB HKC
 by_cases hkl : k < ll
 · have hd : decide ((k : Int) < (ll : Int)) = true := decide_eq_true (by omega)
   have hT1 : Tree (fun j => j < B) wr (.slice ka ll kc) x.kids := HT.out.kp (Kp.lt HBB.out)
   obtain ⟨gb, off, y, ya, yc, za, zc, rfl, hx, hgb, hgB, hrow, hxk, hxn⟩ := hT1.nth k hkl
   have hE := HE.out
   have hdr : x.kids.drop k = y :: x.kids.drop (k + 1) := by rw [List.drop_eq_getElem_cons (by have := HLL.out; omega)]; congr 1; exact (List.getElem?_eq_some_iff.1 hx).2
   rw [hdr, glu_stepS] at hE
   have hym := List.mem_of_getElem? hx
   have hy7 := HO.out.2.2.1 HH8.out y hym
   obtain ⟨E, hEE⟩ : ∃ E, oneR F G false y N m = E := ⟨_, rfl⟩
   have hle := fun i n1 (h : E = .ok (i, n1)) => oneR_le (hEE.trans h)
   have hyl : y.kids.length ≤ 100000 := by have h1 := cnt_mem hym; have h2 := len_le_cnt y.kids; omega
   have hC := fun w1 (hb : Below wr.heap.size wr w1) => send_plain y false ya za yc zc hy7 (by rw [Bool.false_and]) (HOR.out.mem hym).1 (HALL.out y hym) hyl (HRs.out.bel hb) hm60 hNm (Nat.le_trans (show B ≤ wr.heap.size by omega) hb.size) (hxk.bel hb)
   rw [hEE] at hE
   simp only [hEE] at hC
   have HC := Lib.hid hC
   have HEE := Lib.hid hE
   obtain ⟨y0, y1, y2, y3, y4, y5⟩ := hrow
   have hkw : IntKind.i64.wrap ((k : Int) + 1) = (k : Int) + 1 := IntWalk.i64_in _ (by omega)
   clear hC hE hEE hdr hx hT1 hxk hxn HE hym hy7
   have hbbA := alloc_bel wr (.cells #[.int .i64 y.kind, .string ⟨y.name.toArray⟩, .int .i64 y.num, .slice ya y.kids.length yc, .slice za y.names.length zc, .int .i64 y.at_] NDT)
   have hMkA := Blk.made (T := NDT) (cs := #[.int .i64 y.kind, .string ⟨y.name.toArray⟩, .int .i64 y.num, .slice ya y.kids.length yc, .slice za y.names.length zc, .int .i64 y.at_]) wr
   obtain ⟨V1, halV⟩ : ∃ W, wr.alloc (.cells #[.int .i64 y.kind, .string ⟨y.name.toArray⟩, .int .i64 y.num, .slice ya y.kids.length yc, .slice za y.names.length zc, .int .i64 y.at_] NDT) = W := ⟨_, rfl⟩
   rw [halV] at hbbA hMkA
   have HA := Lib.hid hbbA
   have HKY := Lib.hid hMkA
   have HKo1 := Lib.hid (HKo.out.below hbbA HKo.out.lt)
   clear hbbA hMkA
   go_upto_region 5 with fail
   have hS : ∀ v, Blk NDT wr.heap.size #[.int .i64 y.kind, .string ⟨y.name.toArray⟩, .int .i64 y.num, .slice ya y.kids.length yc, .slice za y.names.length zc, .int .i64 y.at_] v ∧ Blk IT (w.heap.size + 1 + 1) #[.int .i64 16, .string ⟨#[]⟩, .int .i64 0, .int .i64 0, .int .i64 0, vo] v → v.cell? ⟨w.heap.size + 1 + 1, 5, none⟩ = some vo ∧ v.cell? ⟨wr.heap.size, 0, none⟩ = some (.int .i64 y.kind) ∧ v.cell? ⟨wr.heap.size, 1, none⟩ = some (.string ⟨y.name.toArray⟩) ∧ v.cell? ⟨wr.heap.size, 2, none⟩ = some (.int .i64 y.num) ∧ v.cell? ⟨wr.heap.size, 3, none⟩ = some (.slice ya y.kids.length yc) ∧ v.cell? ⟨wr.heap.size, 4, none⟩ = some (.slice za y.names.length zc) ∧ v.cell? ⟨wr.heap.size, 5, none⟩ = some (.int .i64 y.at_) := fun v h => ⟨h.2.c 5 _ rfl, h.1.c 0 _ rfl, h.1.c 1 _ rfl, h.1.c 2 _ rfl, h.1.c 3 _ rfl, h.1.c 4 _ rfl, h.1.c 5 _ rfl⟩
   have HSS := Lib.hid hS
   clear hS halV
   refine region_pk (fun c a a' w h hq => (show a.defers = [] ∧ _ from ⟨h ▸ (show a'.defers = [] ∧ _ from hq).1, (show a'.defers = [] ∧ _ from hq).2⟩)) (fun HPQ => ?_)
   refine Hd.start (fun v => v.cell? ⟨w.heap.size + 1 + 1, 5, none⟩ = some vo ∧ v.cell? ⟨wr.heap.size, 0, none⟩ = some (.int .i64 y.kind) ∧ v.cell? ⟨wr.heap.size, 1, none⟩ = some (.string ⟨y.name.toArray⟩) ∧ v.cell? ⟨wr.heap.size, 2, none⟩ = some (.int .i64 y.num) ∧ v.cell? ⟨wr.heap.size, 3, none⟩ = some (.slice ya y.kids.length yc) ∧ v.cell? ⟨wr.heap.size, 4, none⟩ = some (.slice za y.names.length zc) ∧ v.cell? ⟨wr.heap.size, 5, none⟩ = some (.int .i64 y.at_)) (by kernel_rfl) (HSS.out _ ⟨HKY.out.drewN 1, HKo1.out.drewN 1⟩) (fun hH0 => ?_)
   refine Hd.tk 0 1 hH0 ?_ (hQ := fun c a w h => HPQ c _ _ w (put_defers a _ _) h)
   refine Hd.tk 1 6 hH0 ?_ (hQ := fun c a w h => HPQ c _ _ w (put_defers a _ _) h)
   refine Hd.tk 2 4 hH0 ?_ (hQ := fun c a w h => HPQ c _ _ w (put_defers a _ _) h)
   refine Hd.tk 3 4 hH0 ?_ (hQ := fun c a w h => HPQ c _ _ w (put_defers a _ _) h)
   refine Hd.on 4 (fun K hK => ?_)
   go_simp
   have hvs : V1.drew.heap.size = V1.heap.size := rfl
   have hAs := HA.out.size
   have HAd := Lib.hid (show Below wr.heap.size wr V1.drew from HA.out.drew)
   refine (HC.out V1.drew HAd.out).mono ?_; intro e w2 ht
   cases E with
   | error z =>
    obtain ⟨rfl, hb2⟩ := ht
    have hR : Except.error z = R1 := HEE.out
    subst hR
    have hR := HRR.out
    simp only at hR
    subst hR
    have HB2 := Lib.hid ((HBB.out.trans (HAd.out.mono (by omega))).trans hb2)
    exact ⟨rfl, rfl, HB2.out⟩
   | ok z =>
    obtain ⟨i, m2⟩ := z
    obtain ⟨ikv, kv2, rfl, hits, hr2, hn2, hm2⟩ := ht
    obtain ⟨l1, l2⟩ := hle _ _ rfl
    have hE2 : gluI (out ++ [i]) (allR F G false (x.kids.drop (k + 1)) N m2) = R1 := HEE.out
    have hm2s := hm2.size
    have nb0 : wr.heap.size ≠ b := by omega
    have nb1 : w.heap.size + 1 ≠ b := by omega
    have nb2 : w.heap.size + 1 + 1 ≠ b := by omega
    have hkvlt := HRs.out.row.lt
    have hg0 : some wr.heap.size ≠ kv'.ownBlock := fun e => by have := (hkvlt _ e.symm).2; omega
    have hg1 : some (w.heap.size + 1) ≠ kv'.ownBlock := fun e => by
     rcases HNR.out _ e.symm with h | h
     · have := (HRL.out _ h).2; omega
     omega
    have hg2 : some (w.heap.size + 1 + 1) ≠ kv'.ownBlock := fun e => by
     rcases HNR.out _ e.symm with h | h
     · have := (HRL.out _ h).2; omega
     omega
    have hky := blk_mv2 (show Blk NDT wr.heap.size #[.int .i64 y.kind, .string ⟨y.name.toArray⟩, .int .i64 y.num, .slice ya y.kids.length yc, .slice za y.names.length zc, .int .i64 y.at_] V1.drew from HKY.out.drewN 1) hm2 nb0 hg0
    have hkr := blk_mv2 (show Blk IT (w.heap.size + 1) #[.int .i64 0, .string ⟨#[]⟩, .int .i64 0, .int .i64 0, .int .i64 0, .slice none 0 0] V1.drew from HKr.out.below HAd.out (by omega)) hm2 nb1 hg1
    have hko := blk_mv2 (show Blk IT (w.heap.size + 1 + 1) #[.int .i64 16, .string ⟨#[]⟩, .int .i64 0, .int .i64 0, .int .i64 0, vo] V1.drew from HKo1.out.drewN 1) hm2 nb2 hg2
    have hO1 : Out (w.heap.size + 1 + 1 + 1) kv' V1.drew vo out := HOu.out.bel HAd.out
    have hO2 := hO1.step (b := b) (by omega) hm2 hn2
    have hMV2 : Mv2 b kv.ownBlock w w2 := (HMV.out.bel HAd.out).trans (kv' := kv') (fun j hj => by
     rcases HNR.out j hj with h | h
     · exact .inl h
     exact .inr (by omega)) hm2
    have hNR2 : ∀ j, kv2.ownBlock = some j → kv.ownBlock = some j ∨ w.heap.size + 1 + 1 + 1 ≤ j := fun j hj => by
     rcases hn2 j hj with h | h
     · exact HNR.out j h
     exact .inr (by omega)
    obtain ⟨ia, ic, rfl, -, -⟩ := hits.form
    obtain ⟨⟨vl, hvl, hrow, hsub⟩, hap, -⟩ := hO2
    have hvll : vl.length = out.length := by have := congrArg List.length hvl; rwa [List.length_map] at this
    have hob := hrow.lt
    have hrk := hr2.row.lt
    have hob1 : ∀ j, vo.ownBlock = some j → j < V1.heap.size := fun j hj => (hO1.1.lt j hj).2
    have hny : ¬ vo.ownBlock = some wr.heap.size := fun e => by have := (HOu.out.1.lt _ e).2; omega
    have HSS2 := Lib.hid (HSS.out _ ⟨hky, hko⟩)
    unfold itV
    go_wp2_with fail
    refine hK.out _ _ HSS2.out (fun hH1 => ?_)
    clear hK K
    try simp only [Act.put, Hd.sa, Hd.sz, Hd.ss]
    clear hH0
    have hbbB := alloc_bel w2 (.cells #[.int .i64 i.kind, .string ⟨i.name.toArray⟩, .int .i64 i.num, .int .i64 i.slot, .int .i64 i.width, .slice ia i.kids.length ic] IT)
    have hMkB := Blk.made (T := IT) (cs := #[.int .i64 i.kind, .string ⟨i.name.toArray⟩, .int .i64 i.num, .int .i64 i.slot, .int .i64 i.width, .slice ia i.kids.length ic]) w2
    have hszB : (w2.alloc (.cells #[.int .i64 i.kind, .string ⟨i.name.toArray⟩, .int .i64 i.num, .int .i64 i.slot, .int .i64 i.width, .slice ia i.kids.length ic] IT)).heap.size = w2.heap.size + 1 := by simp
    obtain ⟨X3, halB⟩ : ∃ W, w2.alloc (.cells #[.int .i64 i.kind, .string ⟨i.name.toArray⟩, .int .i64 i.num, .int .i64 i.slot, .int .i64 i.width, .slice ia i.kids.length ic] IT) = W := ⟨_, rfl⟩
    rw [halB] at hbbB hMkB hszB
    have hnews := World.news_of_block hMkB
    have hI3 : Its (fun j => Nw (w.heap.size + 1 + 1 + 1) kv2 j ∧ vo.ownBlock ≠ some j) X3 (.slice ia i.kids.length ic) i.kids := (hits.mono (fun j hj hl => ⟨⟨by have := hj.1; omega, hj.2⟩, fun e => by have := hob1 j e; have := hj.1; omega⟩)).bel hbbB
    have hsub3 : ∀ y ∈ vl, Its (fun j => Nw (w.heap.size + 1 + 1 + 1) kv2 j ∧ vo.ownBlock ≠ some j) X3 y.2 y.1.kids := fun y hy => (hsub y hy).bel hbbB
    have hrow3 : X3.ownsRow (w.heap.size + 1 + 1 + 1) IT 6 vo vl.length (flatI vl) := own_below hrow hbbB
    have hr3 := hr2.bel hbbB
    have hM3 := hMV2.bel hbbB
    have hky3 := hky.below hbbB hky.lt
    have hkr3 := hkr.below hbbB hkr.lt
    have hko3 := hko.below hbbB hko.lt
    have HSS3 := Lib.hid (HSS.out _ ⟨hky3, hko3⟩)
    have HROW := Lib.hid hrow3
    have HSUB := Lib.hid hsub3
    have HI3 := Lib.hid hI3
    have HR3 := Lib.hid hr3
    have HM3 := Lib.hid hM3
    have HNR2 := Lib.hid hNR2
    have HNEWS := Lib.hid hnews
    have HVL := Lib.hid hvl
    have HAP := Lib.hid hap
    have HOB := Lib.hid hob
    have HRK := Lib.hid hrk
    have HE2 := Lib.hid hE2
    have HKY3 := Lib.hid hky3
    have HKR3 := Lib.hid hkr3
    have HKO3 := Lib.hid hko3
    clear hrow hsub hrow3 hsub3 hI3 hr3 hM3 hNR2 hnews hvl hap hob hrk hE2 hbbB hMkB hO1 hits hMV2 hr2 hn2 hm2 hob1 HOu HRs HNR HMV HBB hle HC HEE hky hkr hko hky3 hkr3 hko3 HKY HKo HKo1 HKr hkvlt hg0 hg1 hg2 HA HAd HSS2
    refine Hd.on 5 (fun K hK => ?_)
    go_simp
    clear halB
    refine hK.out _ _ HSS3.out (fun hH2 => ?_)
    clear hK K
    try simp only [Act.put, Hd.sa, Hd.sz, Hd.ss]
    clear hH1
    refine Hd.on 6 (fun K hK => ?_)
    refine step_append_lies _ rfl (.tmp 17) (.tmp 21) 35 rfl (w.heap.size + 1 + 1 + 1) IT i0 (.agg #[.int .i64 0, .string ⟨#[]⟩, .int .i64 0, .int .i64 0, .int .i64 0, .slice none 0 0]) 6 72 tsl hi hz0 hz1 hz2 rfl (by decide) _ vl.length (flatI vl) (by simp [Act.eval]) HROW.out ⟨w2.heap.size, 0, none⟩ 1 1 [.int .i64 i.kind, .string ⟨i.name.toArray⟩, .int .i64 i.num, .int .i64 i.slot, .int .i64 i.width, .slice ia i.kids.length ic] (by simp [Act.eval]) rfl HNEWS.out (fun u hu => by simp at hu; rcases hu with rfl | rfl | rfl | rfl | rfl | rfl <;> rfl) (by decide) (by unfold maxLen; omega) (by omega) (by omega) _ rfl ?_
    intro g cap w5 hown5 hgrow5 hat5 hlt5
    have hsn := ownI_snoc (n := vl.length) (S := Nw (w.heap.size + 1 + 1 + 1) kv2) (x := i) (kv := .slice ia i.kids.length ic) rfl hgrow5.size HSUB.out HI3.out hown5 hgrow5 hat5
    rw [HVL.out] at hsn
    have hap5 : ∀ j, (Value.slice (some ⟨g, 0, none⟩) (vl.length + 1) cap).ownBlock = some j → kv2.ownBlock ≠ some j := fun j hj => by
     have hj : some g = some j := hj
     cases hj
     rcases hat5 with h | h
     · exact HAP.out g h
     intro e; have := (HRK.out g e).2; omega
    have hr5 := HR3.out.grown hgrow5 (fun e => by have := (HOB.out b e.symm).1; omega) (fun j hj e => HAP.out j e.symm hj) (fun j hj => by have := (HOB.out j hj).1; omega)
    have hm5 := HM3.out.grown hgrow5 (fun j hj => by have := (HOB.out j hj).1; omega)
    have hob5 : ∀ kk, kk < w.heap.size + 1 + 1 + 1 → some kk ≠ vo.ownBlock := fun kk h e => by have := (HOB.out kk e.symm).1; omega
    have hkr5 := (hgrow5.block _ HKR3.out.lt (hob5 _ (by omega))).trans HKR3.out
    have hko5 := (hgrow5.block _ HKO3.out.lt (hob5 _ (by omega))).trans HKO3.out
    have hky5 : Blk NDT wr.heap.size #[.int .i64 y.kind, .string ⟨y.name.toArray⟩, .int .i64 y.num, .slice ya y.kids.length yc, .slice za y.names.length zc, .int .i64 y.at_] w5 := (hgrow5.block _ HKY3.out.lt (fun e => hny e.symm)).trans HKY3.out
    have hO5 : Out (w.heap.size + 1 + 1 + 1) kv2 w5 (.slice (some ⟨g, 0, none⟩) (vl.length + 1) cap) (out ++ [i]) := ⟨hsn, hap5, fun h => by simp at h⟩
    have hko5 : Blk IT (w.heap.size + 1 + 1) #[.int .i64 16, .string ⟨#[]⟩, .int .i64 0, .int .i64 0, .int .i64 0, vo] w5 := hko5
    have hkv2 : kv2.ownBlock ≠ some (w.heap.size + 1 + 1) := fun e => by
     rcases HNR2.out _ e with h | h
     · have := (HRL.out _ h).2; omega
     omega
    have hr6 := hr5.far (p := ⟨w.heap.size + 1 + 1, 5, none⟩) (show b ≠ w.heap.size + 1 + 1 by omega) hkv2 (show B ≤ w.heap.size + 1 + 1 by omega) (.slice (some ⟨g, 0, none⟩) (vl.length + 1) cap)
    have hm6 := hm5.new (p := ⟨w.heap.size + 1 + 1, 5, none⟩) (show w.heap.size ≤ w.heap.size + 1 + 1 by omega) (.slice (some ⟨g, 0, none⟩) (vl.length + 1) cap)
    have hO6 := hO5.far (p := ⟨w.heap.size + 1 + 1, 5, none⟩) (show w.heap.size + 1 + 1 < w.heap.size + 1 + 1 + 1 by omega) (.slice (some ⟨g, 0, none⟩) (vl.length + 1) cap)
    have hko6 := hko5.set_ 5 (.slice (some ⟨g, 0, none⟩) (vl.length + 1) cap) #[.int .i64 16, .string ⟨#[]⟩, .int .i64 0, .int .i64 0, .int .i64 0, .slice (some ⟨g, 0, none⟩) (vl.length + 1) cap] rfl
    have hkr6 := Blk.far (show Blk IT (w.heap.size + 1) #[.int .i64 0, .string ⟨#[]⟩, .int .i64 0, .int .i64 0, .int .i64 0, .slice none 0 0] w5 from hkr5) (p := ⟨w.heap.size + 1 + 1, 5, none⟩) (show w.heap.size + 1 ≠ w.heap.size + 1 + 1 by omega) (.slice (some ⟨g, 0, none⟩) (vl.length + 1) cap)
    have hs5 := hgrow5.size
    have HSS5 := Lib.hid (HSS.out _ ⟨hky5, hko5⟩)
    have e5 := hko5.c 5 _ rfl
    have ef := hko5.fz
    have hvk : vl.length = k := by omega
    rw [hvk] at hO6 hr6 hm6 hko6 hkr6
    have HO6 := Lib.hid hO6
    have HR6 := Lib.hid hr6
    have HM6 := Lib.hid hm6
    have HKO6 := Lib.hid hko6
    have HKR6 := Lib.hid hkr6
    clear hsn hap5 hr5 hm5 hown5 hgrow5 hat5 HROW HSUB HI3 HR3 HM3 HNEWS HAP HOB HRK hob5 hkr5 hko5 hky5 hO5 hr6 hm6 hO6 hko6 hkr6 hkv2
    refine hK.out _ _ HSS5.out (fun hH3 => ?_)
    clear hK K
    try simp only [Act.put, Hd.sa, Hd.sz, Hd.ss]
    clear hH2
    refine Hd.tk 7 8 hH3 ?_ (hQ := fun c a w h => HPQ c _ _ w (put_defers a _ _) h)
    clear hH3
    refine Hd.la 8 (fun K hK => ?_)
    go_simp
    refine hK.out _ _ ?_
    clear hK K
    try simp only [Act.put, Hd.sa, Hd.sz, Hd.ss]
    go_wp2_with fail
    exact ⟨⟨k + 1, m2, out ++ [i], _, kv2, by simp, by omega, by rw [List.length_append]; simp; omega, by omega, by omega, HE2, HKR6, HKO6, HO6, HR6, HNR2, HM6, by simp [World.setCell]; omega⟩, by simp only [intOf]; omega⟩
 have hd : decide ((k : Int) < (ll : Int)) = false := decide_eq_false (by omega)
 have hE := HE.out
 rw [List.drop_eq_nil_of_le (by have := HLL.out; omega), allR_nil] at hE
 have hE : Except.ok (out ++ [], m) = R1 := hE
 rw [List.append_nil] at hE
 subst hE
 have hR := HRR.out
 simp only at hR
 subst hR
 obtain ⟨oa, oc, rfl, -, -⟩ := HOu.out.its.form
 have HKR := HKr
 have HITS := Lib.hid (show Its (Nw (w.heap.size + 1 + 1 + 1) kv') wr (.slice oa k oc) out by have h := HOu.out.its; rw [hol] at h; exact h)
 have t0 := HKo.out.c 0 _ rfl
 have t1 := HKo.out.c 1 _ rfl
 have t2 := HKo.out.c 2 _ rfl
 have t3 := HKo.out.c 3 _ rfl
 have t4 := HKo.out.c 4 _ rfl
 have t5 := HKo.out.c 5 _ rfl
 have r0 := HKR.out.c 0 _ rfl
 have r1 := HKR.out.c 1 _ rfl
 have r2 := HKR.out.c 2 _ rfl
 have r3 := HKR.out.c 3 _ rfl
 have r4 := HKR.out.c 4 _ rfl
 have r5 := HKR.out.c 5 _ rfl
 have rf := HKR.out.fz
 clear HBB
 go_wp2_with fail
 have H6 := six_item (A := w.heap.size + 1 + 1 + 1) (k := w.heap.size + 1) (v0 := .int .i64 16) (v1 := .string ⟨#[]⟩) (v2 := .int .i64 0) (v3 := .int .i64 0) (v4 := .int .i64 0) (v5 := .slice oa k oc) hlt hB (show w.heap.size ≤ w.heap.size + 1 by omega) (by omega) HRL.out HNR.out HITS.out HRs.out HMV.out
 have hk6 := blk_set6 (v0 := .int .i64 16) (v1 := .string ⟨#[]⟩) (v2 := .int .i64 0) (v3 := .int .i64 0) (v4 := .int .i64 0) (v5 := .slice oa k oc) HKR.out
 obtain ⟨W6, hW6⟩ : ∃ W, (((((wr.setCell ⟨w.heap.size + 1, 0, none⟩ (.int .i64 16)).setCell ⟨w.heap.size + 1, 1, none⟩ (.string ⟨#[]⟩)).setCell ⟨w.heap.size + 1, 2, none⟩ (.int .i64 0)).setCell ⟨w.heap.size + 1, 3, none⟩ (.int .i64 0)).setCell ⟨w.heap.size + 1, 4, none⟩ (.int .i64 0)).setCell ⟨w.heap.size + 1, 5, none⟩ (.slice oa k oc) = W := ⟨_, rfl⟩
 rw [hW6] at H6 hk6 ⊢
 have z0 := hk6.c 0 _ rfl
 have z1 := hk6.c 1 _ rfl
 have z2 := hk6.c 2 _ rfl
 have z3 := hk6.c 3 _ rfl
 have z4 := hk6.c 4 _ rfl
 have z5 := hk6.c 5 _ rfl
 refine bodyPost_ret (v := .agg #[.int .i64 16, .string ⟨#[]⟩, .int .i64 0, .int .i64 0, .int .i64 0, .slice oa k oc]) (by simp [results, Tryz.results85, go_sem, z0, z1, z2, z3, z4, z5]) rfl ?_
 exact ⟨_, kv', rfl, H6⟩
end
end Rv
end Go.Proofs.YtmmgfifpjifjnaaGreatDoor
namespace Go.Proofs.YtmmgfifpjifjnaaGreatDoor
open Go.RowKit
namespace Rv
open Bs Sm Tr
section
variable {A B b : Nat} {F G : List Bytes} {kv fv gv v : Value} {N : List Kn} {n : Nat} {w W : World} {l : List It}
theorem rd_form {S : Nat → Prop} {a : Option Addr} {k cap : Nat} {l : List Bytes} (h : Rd S strV w (.slice a k cap) l) : k = l.length ∧ l.length ≤ cap ∧ cap ≤ maxLen ∧ (a = none → cap = 0) := by
 obtain ⟨a', cap', h1, h2, h3, h5, h4⟩ := h
 cases h1
 exact ⟨rfl, h2, h3, h5⟩
theorem rd_drop {S : Nat → Prop} {a : Option Addr} {k cap m : Nat} {l : List Bytes} (h : Rd S strV w (.slice a k cap) l) (hm : m ≤ k) : Rd S strV w (.slice (if cap = m then a else Option.map (fun x => x.add m) a) (k - m) (cap - m)) (l.drop m) := by
 obtain ⟨a', cap', h1, h2, h3, h5, h4⟩ := h
 cases h1
 refine ⟨_, cap - m, by rw [List.length_drop], by rw [List.length_drop]; omega, by omega, fun hn => ?_, fun hl => ?_⟩
 · by_cases hc : cap = m
   · omega
   rw [if_neg hc] at hn
   have : a = none := by cases a <;> simp at hn ⊢
   have := h5 this; omega
 rw [List.length_drop] at hl
 obtain ⟨b, off, k1, k0, k2, k3⟩ := h4 (by omega)
 refine ⟨b, off + m, ?_, k0, k2, fun i x hx => ?_⟩
 · rw [if_neg (by omega), k1]
   show some ((⟨b, off, none⟩ : Addr).add m) = _
   unfold Addr.add; split <;> simp_all
 rw [List.getElem?_drop] at hx
 have := k3 (m + i) x hx
 rw [← Nat.add_assoc] at this
 exact this
theorem declL_len {F : List Bytes} {at_ : Int} : ∀ {l : List (Bytes × Nat)} {K K' : List Kn} {n n' : Nat}, declL F at_ l K n = .ok (K', n') → K'.length + n = K.length + n'
 | [], K, K', n, n', h => by cases h; rfl
 | (s, p) :: l, K, K', n, n', h => by
  rw [declL_cons] at h
  by_cases hE : declE F K n s p ≠ 0
  · rw [if_pos hE] at h; cases h
  rw [if_neg hE] at h
  have := declL_len h
  rw [List.length_append] at this
  simp at this
  omega
theorem own_n (a : Option Addr) (m n c : Nat) : (Value.slice a m c).ownBlock = (Value.slice a n c).ownBlock := by rcases a with _ | ⟨q, o, _ | p⟩ <;> (try rfl) <;> cases o <;> rfl
theorem flatK_app (a b : List Kn) : flatK (a ++ b) = flatK a ++ flatK b := by unfold flatK; simp
theorem own_cut {T B c : Nat} {a : Option Addr} {K A : List Kn} (h : w.ownsRow B T 3 (.slice a (K ++ A).length c) (K ++ A).length (flatK (K ++ A))) : w.ownsRow B T 3 (.slice a K.length c) K.length (flatK K) := by
 refine ⟨flatK_len K, ?_⟩
 rcases h.2 with ⟨e, h0⟩ | ⟨g, cap, cur, e, hb, hg, hn, hc, hs, ht⟩
 · rw [List.length_append] at h0
   have hk : K.length = 0 := by omega
   simp only [Value.slice.injEq] at e
   obtain ⟨rfl, -, rfl⟩ := e
   exact .inl ⟨by rw [hk], hk⟩
 cases e
 refine .inr ⟨g, c, cur, rfl, hb, hg, by rw [List.length_append] at hn; omega, hc, hs, ?_⟩
 have h3 : (cur.toList.take ((K ++ A).length * 3)).take (K.length * 3) = (flatK (K ++ A)).take (K.length * 3) := by rw [ht]
 rw [List.take_take, Nat.min_eq_left (by rw [List.length_append]; omega), flatK_app] at h3
 rw [h3, ← flatK_len K]
 exact List.take_left
set_option maxRecDepth 100000 in
set_option maxHeartbeats 3200000 in
theorem block_any (x : Nd) (h9 : x.kind = 9) (hO : OkN x) (hAll : AllOk x.kids) : OneOk 86 x (fun F G N n => oneR F G true x N n) := by
 intro B b F G kv fv gv ka na kc nc N n w hR hn hNn hB hT hNm
 have hlt := hR.blk.lt
 have hlo := hR.lo
 have hrl := hR.row.lt
 have hbA := alloc_bel w (.cells #[.int .i64 x.kind, .string ⟨x.name.toArray⟩, .int .i64 x.num, .slice ka x.kids.length kc, .slice na x.names.length nc, .int .i64 x.at_] NDT)
 have hKA := Blk.made (T := NDT) (cs := #[.int .i64 x.kind, .string ⟨x.name.toArray⟩, .int .i64 x.num, .slice ka x.kids.length kc, .slice na x.names.length nc, .int .i64 x.at_]) w
 have hzA : (w.alloc (.cells #[.int .i64 x.kind, .string ⟨x.name.toArray⟩, .int .i64 x.num, .slice ka x.kids.length kc, .slice na x.names.length nc, .int .i64 x.at_] NDT)).heap.size = w.heap.size + 1 := by simp
 obtain ⟨W1, halA⟩ : ∃ W, w.alloc (.cells #[.int .i64 x.kind, .string ⟨x.name.toArray⟩, .int .i64 x.num, .slice ka x.kids.length kc, .slice na x.names.length nc, .int .i64 x.at_] NDT) = W := ⟨_, rfl⟩
 rw [halA] at hbA hKA hzA
 have hbB := hbA.trans ((alloc_bel W1 (.cells #[.int .i64 0, .string ⟨#[]⟩, .int .i64 0, .int .i64 0, .int .i64 0, .slice none 0 0] IT)).mono (by omega))
 have hKB := Blk.made (T := IT) (cs := #[.int .i64 0, .string ⟨#[]⟩, .int .i64 0, .int .i64 0, .int .i64 0, .slice none 0 0]) W1
 have hKA := hKA.alloc (.cells #[.int .i64 0, .string ⟨#[]⟩, .int .i64 0, .int .i64 0, .int .i64 0, .slice none 0 0] IT)
 have hzB : (W1.alloc (.cells #[.int .i64 0, .string ⟨#[]⟩, .int .i64 0, .int .i64 0, .int .i64 0, .slice none 0 0] IT)).heap.size = W1.heap.size + 1 := by simp
 obtain ⟨W2, halB⟩ : ∃ W, W1.alloc (.cells #[.int .i64 0, .string ⟨#[]⟩, .int .i64 0, .int .i64 0, .int .i64 0, .slice none 0 0] IT) = W := ⟨_, rfl⟩
 rw [halB] at hbB hKA hKB hzB
 rw [hzA] at hKB hzB
 obtain ⟨R, hRR⟩ : ∃ R, oneR F G true x N n = R := ⟨_, rfl⟩
 simp only [hRR]
 unfold oneR at hRR
 rw [if_neg (by omega), if_neg (by omega), if_neg (by omega), if_neg (by omega), if_pos h9] at hRR
 obtain ⟨kva, kvc, rfl⟩ := hR.form
 have hRB := hR.bel hbB
 have r0 := hRB.blk.c 0 _ rfl
 have r1 := hRB.blk.c 1 _ rfl
 have c2 := hKA.c 2 _ rfl
 have c4 := hKA.c 4 _ rfl
 obtain ⟨o1, o2⟩ := hO.2.1 h9
 have HT := Lib.hid hT
 have HNM := Lib.hid hNm
 have HRR := Lib.hid hRR
 have HRL := Lib.hid hrl
 have HALL := Lib.hid hAll
 have HRB := Lib.hid hRB
 have HKA := Lib.hid hKA
 have HKB := Lib.hid hKB
 have HBB := Lib.hid hbB
 clear hT hNm hRR hrl hAll hRB hKA hKB hbA hbB hR h9 hO
 go_enter Tryz.func86, Tryz.ntmps86
 go_upto_region 2 with fail
 refine wp_region_noPanic ?_
 refine Hd.start (fun v => v.cell? ⟨b, 1, none⟩ = some (.int .i64 (n : Int)) ∧ v.cell? ⟨w.heap.size, 2, none⟩ = some (.int .i64 x.num) ∧ v.cell? ⟨w.heap.size, 4, none⟩ = some (.slice na x.names.length nc)) (by kernel_rfl) ⟨r1, c2, c4⟩ (fun hH0 => ?_)
 refine Hd.tk 0 1 hH0 ?_
 refine Hd.tk 1 9 hH0 ?_
 refine Hd.tk 2 3 hH0 ?_
 refine Hd.tk 3 4 hH0 ?_
 refine Hd.tk 4 5 hH0 ?_
 refine Hd.tk 5 9 hH0 ?_
 refine Hd.tk 6 7 hH0 ?_
 refine Hd.tk 7 8 hH0 ?_
 refine Hd.tk 8 9 hH0 ?_
 refine Hd.tk 9 11 hH0 ?_
 have hb2 : Below W2.heap.size W2 W2.drew := (Below.refl _ W2).drew
 have hbbZ := alloc_bel W2.drew (.cells #[.int .i64 0, .string ⟨#[]⟩, .int .i64 0, .int .i64 0, .int .i64 0, .slice none 0 0] IT)
 have hMkZ := Blk.made (T := IT) (cs := #[.int .i64 0, .string ⟨#[]⟩, .int .i64 0, .int .i64 0, .int .i64 0, .slice none 0 0]) W2.drew
 have hszZ : (W2.drew.alloc (.cells #[.int .i64 0, .string ⟨#[]⟩, .int .i64 0, .int .i64 0, .int .i64 0, .slice none 0 0] IT)).heap.size = W2.drew.heap.size + 1 := by simp
 obtain ⟨WZ, halZ⟩ : ∃ W, W2.drew.alloc (.cells #[.int .i64 0, .string ⟨#[]⟩, .int .i64 0, .int .i64 0, .int .i64 0, .slice none 0 0] IT) = W := ⟨_, rfl⟩
 rw [halZ] at hbbZ hMkZ hszZ
 have hszZ : WZ.heap.size = w.heap.size + 1 + 1 + 1 := by rw [hszZ]; show W2.heap.size + 1 = _; omega
 have hd2 : W2.drew.heap.size = w.heap.size + 1 + 1 := hzB
 rw [hd2] at hMkZ
 have hbZ : Below W2.heap.size W2 WZ := hb2.trans hbbZ
 have hRZ := HRB.out.bel hbZ
 have hkaZ := HKA.out.below hbZ HKA.out.lt
 have hkbZ := HKB.out.below hbZ HKB.out.lt
 have z1 := hRZ.blk.c 1 _ rfl
 have z2 := hkaZ.c 2 _ rfl
 have z4 := hkaZ.c 4 _ rfl
 have HMZ := Lib.hid hMkZ
 have HBZ := Lib.hid hbZ
 have HRZ := Lib.hid hRZ
 have HKAZ := Lib.hid hkaZ
 have HKBZ := Lib.hid hkbZ
 clear hb2 hbbZ hMkZ hbZ hRZ hkaZ hkbZ r0 r1 c2 c4 hH0
 refine Hd.on 10 (fun K hK => ?_)
 go_simp
 clear halZ
 refine hK.out _ _ ⟨z1, z2, z4⟩ (fun hH1 => ?_)
 clear hK K
 try simp only [Act.put, Hd.sa, Hd.sz, Hd.ss]
 have q0 := HMZ.out.c 0 _ rfl
 have q1 := HMZ.out.c 1 _ rfl
 have q2 := HMZ.out.c 2 _ rfl
 have q3 := HMZ.out.c 3 _ rfl
 have q4 := HMZ.out.c 4 _ rfl
 have q5 := HMZ.out.c 5 _ rfl
 have qf := HMZ.out.fz
 clear hH1
 refine Hd.la 11 (fun K hK => ?_)
 go_simp
 refine hK.out _ _ ?_
 clear hK K
 try simp only [Act.put, Hd.sa, Hd.sz, Hd.ss]
 simp only [NoPanic]
 have hks : ∀ j, (Value.slice kva N.length kvc).ownBlock = some j → (Value.slice kva N.length kvc).ownBlock = some j ∨ w.heap.size + 1 + 1 + 1 ≤ j := fun j hj => .inl hj
 have H6 := six_item (A := w.heap.size + 1 + 1 + 1) (k := w.heap.size + 1 + 1) (v0 := .int .i64 17) (v1 := .string ⟨#[]⟩) (v2 := .int .i64 x.num) (v3 := .int .i64 (n : Int)) (v4 := .int .i64 (x.names.length : Int)) (v5 := .slice none 0 0) hlt hB (by omega) (by omega) HRL.out hks (Its.nil _ _) HRZ.out (Mv2.of_bel (HBB.out.trans (HBZ.out.mono (by omega))))
 have hk6 := blk_set6 (v0 := .int .i64 17) (v1 := .string ⟨#[]⟩) (v2 := .int .i64 x.num) (v3 := .int .i64 (n : Int)) (v4 := .int .i64 (x.names.length : Int)) (v5 := .slice none 0 0) HMZ.out
 have hka6 := blk_far6 (k := w.heap.size + 1 + 1) (v0 := .int .i64 17) (v1 := .string ⟨#[]⟩) (v2 := .int .i64 x.num) (v3 := .int .i64 (n : Int)) (v4 := .int .i64 (x.names.length : Int)) (v5 := .slice none 0 0) HKAZ.out (by omega)
 have hkr6 := blk_far6 (k := w.heap.size + 1 + 1) (v0 := .int .i64 17) (v1 := .string ⟨#[]⟩) (v2 := .int .i64 x.num) (v3 := .int .i64 (n : Int)) (v4 := .int .i64 (x.names.length : Int)) (v5 := .slice none 0 0) HKBZ.out (by omega)
 have hsz6 : ((((((WZ.setCell ⟨w.heap.size + 1 + 1, 0, none⟩ (.int .i64 17)).setCell ⟨w.heap.size + 1 + 1, 1, none⟩ (.string ⟨#[]⟩)).setCell ⟨w.heap.size + 1 + 1, 2, none⟩ (.int .i64 x.num)).setCell ⟨w.heap.size + 1 + 1, 3, none⟩ (.int .i64 (n : Int))).setCell ⟨w.heap.size + 1 + 1, 4, none⟩ (.int .i64 (x.names.length : Int))).setCell ⟨w.heap.size + 1 + 1, 5, none⟩ (.slice none 0 0)).heap.size = w.heap.size + 1 + 1 + 1 := by simp [World.setCell]; omega
 obtain ⟨W3, hW3⟩ : ∃ W, (((((WZ.setCell ⟨w.heap.size + 1 + 1, 0, none⟩ (.int .i64 17)).setCell ⟨w.heap.size + 1 + 1, 1, none⟩ (.string ⟨#[]⟩)).setCell ⟨w.heap.size + 1 + 1, 2, none⟩ (.int .i64 x.num)).setCell ⟨w.heap.size + 1 + 1, 3, none⟩ (.int .i64 (n : Int))).setCell ⟨w.heap.size + 1 + 1, 4, none⟩ (.int .i64 (x.names.length : Int))).setCell ⟨w.heap.size + 1 + 1, 5, none⟩ (.slice none 0 0) = W := ⟨_, rfl⟩
 rw [hW3] at H6 hk6 hka6 hkr6 hsz6
 obtain ⟨-, hR6, -, hM6⟩ := H6
 have hB6 := hM6.below hlo (fun j hj => (HRL.out j hj).1) hB
 have hN6 : Rd (fun j => j < B) strV W3 (.slice na x.names.length nc) x.names := HNM.out.kp (Kp.lt hB6)
 have hT6 : Tree (fun j => j < B) W3 (.slice ka x.kids.length kc) x.kids := HT.out.kp (Kp.lt hB6)
 obtain ⟨nn, hnn⟩ : ∃ k : Nat, x.num = (k : Int) := ⟨x.num.toNat, by omega⟩
 rw [hnn] at o1 o2
 have hnl : nn ≤ x.names.length := by omega
 obtain ⟨-, hNc, hNm2, hNnil⟩ := rd_form hN6
 have hi1 : (nn : Int) ≤ (nc : Int) := by omega
 have hi2 : (0 : Int) ≤ (nn : Int) := by omega
 have d2 := hka6.c 2 _ rfl
 have d4 := hka6.c 4 _ rfl
 have d5 := hka6.c 5 _ rfl
 rw [hnn] at hk6
 rw [hnn] at hka6
 have d2 := hka6.c 2 _ rfl
 have HR6 := Lib.hid hR6
 have HM6 := Lib.hid hM6
 have HN6 := Lib.hid hN6
 have HT6 := Lib.hid hT6
 have HK6 := Lib.hid hk6
 have HKA6 := Lib.hid hka6
 have HKR6 := Lib.hid hkr6
 have HB6 := Lib.hid hB6
 have HNN := Lib.hid hnn
 clear z1 z2 z4 q0 q1 q2 q3 q4 q5 qf hR6 hM6 hN6 hT6 hk6 hka6 hkr6 hB6 hks hnn
 rw [hW3]
 clear hW3
 go_upto_region 3 with fail
 refine region_pk (fun c a a' w h hq => (show a.defers = [] ∧ _ from ⟨h ▸ (show a'.defers = [] ∧ _ from hq).1, (show a'.defers = [] ∧ _ from hq).2⟩)) (fun HPQ => ?_)
 refine Hd.start (fun v => v.cell? ⟨w.heap.size, 2, none⟩ = some (.int .i64 (nn : Int)) ∧ v.cell? ⟨w.heap.size, 4, none⟩ = some (.slice na x.names.length nc) ∧ v.cell? ⟨w.heap.size, 5, none⟩ = some (.int .i64 x.at_)) (by kernel_rfl) ⟨d2, d4, d5⟩ (fun hH0 => ?_)
 refine Hd.tk 0 13 hH0 ?_ (hQ := fun c a w h => HPQ c _ _ w (put_defers a _ _) h)
 refine Hd.tk 1 2 hH0 ?_ (hQ := fun c a w h => HPQ c _ _ w (put_defers a _ _) h)
 refine Hd.tk 2 5 hH0 ?_ (hQ := fun c a w h => HPQ c _ _ w (put_defers a _ _) h)
 refine Hd.tk 3 4 hH0 ?_ (hQ := fun c a w h => HPQ c _ _ w (put_defers a _ _) h)
 refine Hd.tk 4 5 hH0 ?_ (hQ := fun c a w h => HPQ c _ _ w (put_defers a _ _) h)
 refine Hd.tk 5 13 hH0 ?_ (hQ := fun c a w h => HPQ c _ _ w (put_defers a _ _) h)
 refine Hd.tk 6 7 hH0 ?_ (hQ := fun c a w h => HPQ c _ _ w (put_defers a _ _) h)
 refine Hd.tk 7 10 hH0 ?_ (hQ := fun c a w h => HPQ c _ _ w (put_defers a _ _) h)
 refine Hd.tk 8 9 hH0 ?_ (hQ := fun c a w h => HPQ c _ _ w (put_defers a _ _) h)
 refine Hd.tk 9 10 hH0 ?_ (hQ := fun c a w h => HPQ c _ _ w (put_defers a _ _) h)
 refine Hd.tk 11 12 hH0 ?_ (hQ := fun c a w h => HPQ c _ _ w (put_defers a _ _) h)
 refine Hd.tk 12 13 hH0 ?_ (hQ := fun c a w h => HPQ c _ _ w (put_defers a _ _) h)
 obtain ⟨va, hva⟩ : ∃ a, (if nc = nn then na else Option.map (fun x => x.add nn) na) = a := ⟨_, rfl⟩
 refine Hd.tk 10 13 hH0 ?_ (hQ := fun c a w h => HPQ c _ _ w (put_defers a _ _) h)
 have hRd : Rs B b F G (.slice kva N.length kvc) fv gv N n W3.drew := HR6.out.bel (Below.refl _ _).drew
 have hPd : Rd (fun j => j < B) strV W3.drew (.slice na nn nc) (x.names.take nn) := (HN6.out.cut nn hnl).below (Below.refl _ _).drew
 have hVd : Rd (fun j => j < B) strV W3.drew (.slice (if nc = nn then na else Option.map (fun x => x.add nn) na) (x.names.length - nn) (nc - nn)) (x.names.drop nn) := (rd_drop HN6.out hnl).below (Below.refl _ _).drew
 rw [hva] at hVd
 have hNA := names_any _ _ _ _ x.at_ hRd hn hNn (show B ≤ W3.drew.heap.size by show B ≤ W3.heap.size; omega) hPd hVd
 obtain ⟨D, hD⟩ : ∃ D, declL F x.at_ (parN 0 (x.names.take nn) ++ varN (x.names.drop nn)) N n = D := ⟨_, rfl⟩
 have hR := HRR.out
 rw [HNN.out, Int.toNat_natCast, hD] at hR
 rw [hD] at hNA
 have HNA := Lib.hid hNA
 have HR2 := Lib.hid hR
 have HD := Lib.hid hD
 have HKAd := Lib.hid (show Blk NDT w.heap.size #[.int .i64 x.kind, .string ⟨x.name.toArray⟩, .int .i64 (nn : Int), .slice ka x.kids.length kc, .slice na x.names.length nc, .int .i64 x.at_] W3.drew from HKA6.out.drewN 1)
 have HKRd := Lib.hid (show Blk IT (w.heap.size + 1) #[.int .i64 0, .string ⟨#[]⟩, .int .i64 0, .int .i64 0, .int .i64 0, .slice none 0 0] W3.drew from HKR6.out.drewN 1)
 have HKd := Lib.hid (show Blk IT (w.heap.size + 1 + 1) #[.int .i64 17, .string ⟨#[]⟩, .int .i64 (nn : Int), .int .i64 (n : Int), .int .i64 (x.names.length : Int), .slice none 0 0] W3.drew from HK6.out.drewN 1)
 have HMd := Lib.hid (HM6.out.bel (Below.refl _ W3).drew)
 have hdsz : W3.drew.heap.size = w.heap.size + 1 + 1 + 1 := hsz6
 have nk0 : w.heap.size ≠ b := by omega
 have nk1 : w.heap.size + 1 ≠ b := by omega
 have nk2 : w.heap.size + 1 + 1 ≠ b := by omega
 have nb2 : ¬ b = w.heap.size + 1 + 1 := by omega
 have gk : ∀ j, w.heap.size ≤ j → some j ≠ (Value.slice kva N.length kvc).ownBlock := fun j hj e => by have := (HRL.out _ e.symm).2; omega
 have HGK := Lib.hid gk
 clear hRd hPd hVd hNA hR hD gk HRR d2 d4 d5
 refine Hd.la 13 (fun K hK => ?_)
 go_simp
 refine HNA.out.mono ?_; intro e w4 ht
 cases D with
 | error y =>
  obtain ⟨rfl, hb4⟩ := ht
  have hR := HR2.out
  simp only at hR
  subst hR
  have HB9 := Lib.hid ((HMd.out.below hlo (fun j hj => (HRL.out j hj).1) hB).trans hb4)
  exact ⟨rfl, rfl, HB9.out⟩
 | ok y =>
  obtain ⟨M, m⟩ := y
  obtain ⟨rfl, kv4, hR4, hN4, hM4⟩ := ht
  obtain ⟨dd1, dd2, AA, hMA, -⟩ := declL_ok _ _ _ _ _ _ _ HD.out
  have hml := declL_len HD.out
  have hm4s := hM4.size
  have hk4a := blk_mv2 HKAd.out hM4 nk0 (HGK.out _ (Nat.le_refl _))
  have hk4r := blk_mv2 HKRd.out hM4 nk1 (HGK.out _ (by omega))
  have hk4o := blk_mv2 HKd.out hM4 nk2 (HGK.out _ (by omega))
  have hM04 : Mv2 b (Value.slice kva N.length kvc).ownBlock w w4 := HMd.out.trans (Near.refl _ _) hM4
  have hB4 := hM04.below hlo (fun j hj => (HRL.out j hj).1) hB
  have hT4 : Tree (fun j => j < B) w4 (.slice ka x.kids.length kc) x.kids := HT.out.kp (Kp.lt hB4)
  have HAL := Lib.hid (HALL.out B b F G kv4 fv gv _ M m w4 hR4 (dd2 hn) (by omega) (by omega) hT4)
  have d3 := hk4a.c 3 _ rfl
  have hR := HR2.out
  simp only at hR
  obtain ⟨E, hE⟩ : ∃ E, allR F G true x.kids M m = E := ⟨_, rfl⟩
  rw [hE] at HAL hR
  have HR3 := Lib.hid hR
  have HM04 := Lib.hid hM04
  have HB4 := Lib.hid hB4
  have HK4R := Lib.hid hk4r
  have HK4O := Lib.hid hk4o
  have hn4 : ∀ j, kv4.ownBlock = some j → (Value.slice kva N.length kvc).ownBlock = some j ∨ w.heap.size + 1 + 1 + 1 ≤ j := fun j hj => by
   rcases hN4 j hj with h | h
   · exact .inl h
   exact .inr (by omega)
  have HN4 := Lib.hid hn4
  have hk4lt := hR4.row.lt
  have HK4LT := Lib.hid hk4lt
  have HMA := Lib.hid hMA
  clear hR hE hM04 hB4 hT4 hk4a hk4r hk4o hn4 hN4 hM4 hR4 hk4lt hMA
  refine hK.out _ _ ?_
  clear hK K
  try simp only [Act.put, Hd.sa, Hd.sz, Hd.ss]
  go_wp2_with fail
  refine HAL.out.mono ?_; intro e w5 ht
  cases E with
  | error y =>
   obtain ⟨rfl, hb5⟩ := ht
   have hR := HR3.out
   simp only at hR
   subst hR
   have HB9 := Lib.hid (HB4.out.trans hb5)
   go_wp2_with fail
   exact ⟨rfl, rfl, HB9.out⟩
  | ok y =>
   obtain ⟨ks, n5⟩ := y
   obtain ⟨iv, kv5, rfl, hout, hR5, hN5, hM5⟩ := ht
   have hR := HR3.out
   simp only at hR
   subst hR
   have hm5s := hM5.size
   have gk4 : ∀ j, w.heap.size ≤ j → j < w.heap.size + 1 + 1 + 1 → some j ≠ kv4.ownBlock := fun j h1 h2 e => by
    rcases HN4.out j e.symm with h | h
    · have := (HRL.out _ h).2; omega
    omega
   have hk5r := blk_mv2 HK4R.out hM5 nk1 (gk4 _ (by omega) (by omega))
   have hk5o := blk_mv2 HK4O.out hM5 nk2 (gk4 _ (by omega) (by omega))
   have hn5 : ∀ j, kv5.ownBlock = some j → (Value.slice kva N.length kvc).ownBlock = some j ∨ w.heap.size + 1 + 1 + 1 ≤ j := fun j hj => by
    rcases hN5 j hj with h | h
    · exact HN4.out j h
    exact .inr (by omega)
   have hM05 : Mv2 b (Value.slice kva N.length kvc).ownBlock w w5 := HM04.out.trans (fun j hj => by
    rcases HN4.out j hj with h | h
    · exact .inl h
    exact .inr (by omega)) hM5
   obtain ⟨ia, ic, rfl, -, -⟩ := hout.its.form
   obtain ⟨k5a, k5c, rfl⟩ := hR5.form
   have hkn : ∀ j, w.heap.size ≤ j → j < w.heap.size + 1 + 1 + 1 → (Value.slice k5a M.length k5c).ownBlock ≠ some j := fun j h1 h2 e => by
    rcases hn5 j e with h | h
    · have := (HRL.out _ h).2; omega
    omega
   -- the kids are laid into the item
   have hits6 : Its (Nw (w.heap.size + 1 + 1 + 1) (.slice k5a M.length k5c)) (w5.setCell ⟨w.heap.size + 1 + 1, 5, none⟩ (.slice ia ks.length ic)) (.slice ia ks.length ic) ks := (hout.far (p := ⟨w.heap.size + 1 + 1, 5, none⟩) (show w.heap.size + 1 + 1 < w4.heap.size by omega) _).its.age (by omega)
   have hR6 := hR5.far (p := ⟨w.heap.size + 1 + 1, 5, none⟩) nb2 (hkn (w.heap.size + 1 + 1) (by omega) (by omega)) (show B ≤ w.heap.size + 1 + 1 by omega) (.slice ia ks.length ic)
   have hM06 := hM05.new (p := ⟨w.heap.size + 1 + 1, 5, none⟩) (show w.heap.size ≤ w.heap.size + 1 + 1 by omega) (.slice ia ks.length ic)
   have hk6o := hk5o.set_ 5 (.slice ia ks.length ic) #[.int .i64 17, .string ⟨#[]⟩, .int .i64 (nn : Int), .int .i64 (n : Int), .int .i64 (x.names.length : Int), .slice ia ks.length ic] rfl
   have hk6r := hk5r.far (p := ⟨w.heap.size + 1 + 1, 5, none⟩) (show w.heap.size + 1 ≠ w.heap.size + 1 + 1 by omega) (.slice ia ks.length ic)
   have e5 := hk5o.c 5 _ rfl
   have ef := hk5o.fz
   have b0 := hR5.blk.c 0 _ rfl
   obtain ⟨W6, hW6⟩ : ∃ W, w5.setCell ⟨w.heap.size + 1 + 1, 5, none⟩ (.slice ia ks.length ic) = W := ⟨_, rfl⟩
   rw [hW6] at hits6 hR6 hM06 hk6o hk6r
   have HITS6 := Lib.hid hits6
   have HR6 := Lib.hid hR6
   have HM06 := Lib.hid hM06
   have HK6O := Lib.hid hk6o
   have HK6R := Lib.hid hk6r
   have HN5 := Lib.hid hn5
   clear hits6 hR6 hM06 hk6o hk6r hn5 hout hR5 hN5 hM5 hM05 hk5r hk5o hkn gk4 HK4R HK4O HAL b0
   go_upto_region 5 with fail
   try rw [hW6]
   clear hW6 e5 ef
   have b0 := HR6.out.blk.c 0 _ rfl
   have bf := HR6.out.blk.fz
   have hcap : N.length ≤ k5c := by
    have hml2 : N.length ≤ M.length := by rw [HMA.out, List.length_append]; omega
    rcases HR6.out.row.2 with ⟨e, h0⟩ | ⟨g, cap, cur, e, -, -, h1, -⟩
    · simp only [Value.slice.injEq] at e; omega
    simp only [Value.slice.injEq] at e; omega
   have hi5 : (N.length : Int) ≤ (k5c : Int) := by omega
   have hrow7 := own_cut (w := W6) (K := N) (A := AA) (by have h := HR6.out.row; rw [HMA.out] at h; exact h)
   go_upto_region 6 with fail
   have eo : (Value.slice k5a N.length k5c).ownBlock = (Value.slice k5a M.length k5c).ownBlock := own_n k5a _ _ _
   have hne8 : (Value.slice k5a N.length k5c).ownBlock ≠ some b := by rw [eo]; exact HR6.out.ne
   have hb8 : Blk RT b #[.slice k5a N.length k5c, .int .i64 (n5 : Int), fv, gv] (W6.setCell ⟨b, 0, none⟩ (.slice k5a N.length k5c)) := HR6.out.blk.set_ 0 (.slice k5a N.length k5c) _ rfl
   have hM8 : Mv2 b none W6 (W6.setCell ⟨b, 0, none⟩ (.slice k5a N.length k5c)) := (Mv2.refl b none W6).set_ 0 _
   have hk8 : Kp (fun j => j < B) W6 (W6.setCell ⟨b, 0, none⟩ (.slice k5a N.length k5c)) := hM8.kp (by omega) (fun k h => by cases h)
   have hR8 : Rs B b F G (.slice k5a N.length k5c) fv gv N n5 (W6.setCell ⟨b, 0, none⟩ (.slice k5a N.length k5c)) := ⟨hb8, own_set_ne hrow7 hne8 0 _, hne8, HR6.out.lo, HR6.out.fld.kp hk8, HR6.out.glb.kp hk8⟩
   have hI8 : Its (Nw (w.heap.size + 1 + 1 + 1) (.slice k5a N.length k5c)) (W6.setCell ⟨b, 0, none⟩ (.slice k5a N.length k5c)) (.slice ia ks.length ic) ks := (HITS6.out.mono (fun j hj _ => ⟨hj.1, by rw [eo]; exact hj.2⟩)).kp (hM8.kp (fun h => by have := h.1; omega) (fun k h => by cases h))
   have hM9 : Mv2 b (Value.slice kva N.length kvc).ownBlock w (W6.setCell ⟨b, 0, none⟩ (.slice k5a N.length k5c)) := HM06.out.set_ 0 _
   have hr9 := HK6R.out.far (p := ⟨b, 0, none⟩) nk1 (.slice k5a N.length k5c)
   have ho9 := HK6O.out.far (p := ⟨b, 0, none⟩) nk2 (.slice k5a N.length k5c)
   obtain ⟨W7, hW7⟩ : ∃ W, W6.setCell ⟨b, 0, none⟩ (.slice k5a N.length k5c) = W := ⟨_, rfl⟩
   rw [hW7] at hR8 hI8 hM9 hr9 ho9
   try rw [hW7]
   have HKR := Lib.hid hr9
   have HI8 := Lib.hid hI8
   have HR8 := Lib.hid hR8
   have HM9 := Lib.hid hM9
   clear b0 bf hb8 hM8 hk8 hR8 hI8 hM9 hr9 hrow7 HR6 HITS6 HM06 HK6O HK6R
   have t0 := ho9.c 0 _ rfl
   have t1 := ho9.c 1 _ rfl
   have t2 := ho9.c 2 _ rfl
   have t3 := ho9.c 3 _ rfl
   have t4 := ho9.c 4 _ rfl
   have t5 := ho9.c 5 _ rfl
   clear ho9
   have r0 := HKR.out.c 0 _ rfl
   have r1 := HKR.out.c 1 _ rfl
   have r2 := HKR.out.c 2 _ rfl
   have r3 := HKR.out.c 3 _ rfl
   have r4 := HKR.out.c 4 _ rfl
   have r5 := HKR.out.c 5 _ rfl
   have rf := HKR.out.fz
   go_wp2_with fail
   have H6 := six_item (A := w.heap.size + 1 + 1 + 1) (k := w.heap.size + 1) (v0 := .int .i64 17) (v1 := .string ⟨#[]⟩) (v2 := .int .i64 (nn : Int)) (v3 := .int .i64 (n : Int)) (v4 := .int .i64 (x.names.length : Int)) (v5 := .slice ia ks.length ic) hlt hB (show w.heap.size ≤ w.heap.size + 1 by omega) (by omega) HRL.out (fun j hj => HN5.out j (by rw [← eo]; exact hj)) HI8.out HR8.out HM9.out
   have hk6 := blk_set6 (v0 := .int .i64 17) (v1 := .string ⟨#[]⟩) (v2 := .int .i64 (nn : Int)) (v3 := .int .i64 (n : Int)) (v4 := .int .i64 (x.names.length : Int)) (v5 := .slice ia ks.length ic) HKR.out
   obtain ⟨W6, hW6⟩ : ∃ W, (((((W7.setCell ⟨w.heap.size + 1, 0, none⟩ (.int .i64 17)).setCell ⟨w.heap.size + 1, 1, none⟩ (.string ⟨#[]⟩)).setCell ⟨w.heap.size + 1, 2, none⟩ (.int .i64 (nn : Int))).setCell ⟨w.heap.size + 1, 3, none⟩ (.int .i64 (n : Int))).setCell ⟨w.heap.size + 1, 4, none⟩ (.int .i64 (x.names.length : Int))).setCell ⟨w.heap.size + 1, 5, none⟩ (.slice ia ks.length ic) = W := ⟨_, rfl⟩
   rw [hW6] at H6 hk6 ⊢
   have z0 := hk6.c 0 _ rfl
   have z1 := hk6.c 1 _ rfl
   have z2 := hk6.c 2 _ rfl
   have z3 := hk6.c 3 _ rfl
   have z4 := hk6.c 4 _ rfl
   have z5 := hk6.c 5 _ rfl
   refine bodyPost_ret (v := .agg #[.int .i64 17, .string ⟨#[]⟩, .int .i64 (nn : Int), .int .i64 (n : Int), .int .i64 (x.names.length : Int), .slice ia ks.length ic]) (by simp [results, Tryz.results86, go_sem, z0, z1, z2, z3, z4, z5]) rfl ?_
   exact ⟨_, (.slice k5a N.length k5c), rfl, H6⟩
end
end Rv
end Go.Proofs.YtmmgfifpjifjnaaGreatDoor
