/- Package parse, the walk, 10: cascade (wip/gen/gen_paw10.py prints this). -/
import Derived.Test.YtbdgoimbddlcoaaGreatDoorPaW9
set_option linter.unusedVariables false
namespace Go.Proofs.YtbdgoimbddlcoaaGreatDoor
open Go.RowKit
namespace Pa
open Bs Sm Tr
open Lx (Mv)
section
variable {b : Nat} {L : List Pt} {tb tc : Nat} {bad : Int} {a d f : Nat} {w w' w0 : World} {S S' : Nat → Prop} {K : Nat} {x : Nd}
theorem semi_round (hL : LOk L) {g k : Nat} {out : List Nd} {R : PE (List Nd × Nat)} (hk : k < L.length) (hg : 16 * (L.length - k) + 1 ≤ g) (h : semiP L bad g d k out = R) :
  (isK L 10 k = false → R = .ok (out, k)) ∧ (isK L 10 k = true → k + 1 < L.length ∧ ∃ g', g = g' + 1 ∧ (msgP L bad g' d (k + 1) (.mk 11 [] 0 [] [] (now L k).at_) >>= fun r => semiP L bad g' d r.2 (out ++ [r.1])) = R) := by
 cases g with
 | zero => omega
 | succ g =>
  rw [semiP] at h
  refine ⟨fun hq => ?_, fun hq => ?_⟩
  · rw [if_neg (by rw [hq]; simp)] at h; exact h.symm
  · rw [if_pos hq] at h
    exact ⟨hL.next hq (by omega) hk, g, rfl, h⟩
def PanicOk (Q : Exit → Act → World → Prop) : Prop := ∀ c (a a' : Act) (w : World), a'.defers = a.defers → Q (.panic c) a' w → Q (.panic c) a w
theorem put_defers (a : Act) (d : Option Nat) (v : Value) : (a.put d v).defers = a.defers := by cases d <;> rfl
theorem region_pk {P : Program} {Q : Exit → Act → World → Prop} {c : Code} {a : Act} {w : World} (hq : PanicOk Q) (h : PanicOk Q → c.wp P Q a w) : c.wp P Q a w := h hq
/-- A row of one node that was laid just now. -/
theorem ownT_lit {B : Nat} {ka na : Option Addr} {kc nc : Nat} (hB : B ≤ w.heap.size) (hk : Tree S w (.slice ka x.kids.length kc) x.kids) (hn : Rd S strV w (.slice na x.names.length nc) x.names) (hS : ¬ S w.heap.size) :
  OwnT NDT B S (w.alloc (.cells (ndA x ka kc na nc) NDT)) (.slice (some ⟨w.heap.size, 0, none⟩) 1 1) [x] := by
 have hb := alloc_bel w (.cells (ndA x ka kc na nc) NDT)
 refine ⟨[(x, .slice ka x.kids.length kc, .slice na x.names.length nc)], rfl, World.ownsRow_lit (size := 6) w (ndA x ka kc na nc) 1 hB (by unfold maxLen; omega) rfl, fun y hy => ?_⟩
 obtain rfl := List.mem_singleton.1 hy
 exact ⟨(hk.mono (fun j hj _ => ⟨hj, fun e => hS (by cases e; exact hj)⟩)).bel hb, (hn.mono (fun j hj _ => ⟨hj, fun e => hS (by cases e; exact hj)⟩)).below hb⟩
theorem OwnT.mono {T B : Nat} {v : Value} {l : List Nd} (h : OwnT T B S w v l) (hs : ∀ j, S j → j < w.heap.size → S' j) : OwnT T B S' w v l := by
 obtain ⟨vl, h1, h2, h3⟩ := h
 exact ⟨vl, h1, h2, fun x hx => ⟨(h3 x hx).1.mono (fun j hj hl => ⟨hs j hj.1 hl, hj.2⟩), (h3 x hx).2.mono (fun j hj hl => ⟨hs j hj.1 hl, hj.2⟩)⟩⟩
theorem ownT_set {T B k i : Nat} {v : Value} {l : List Nd} (h : OwnT T B S w v l) (hne : v.ownBlock ≠ some k) (hS : ¬ S k) (u : Value) : OwnT T B S (w.setCell ⟨k, i, none⟩ u) v l := by
 obtain ⟨vl, h1, h2, h3⟩ := h
 have hk : ∀ (Q : Nat → Prop), ¬ Q k → Kp Q w (w.setCell ⟨k, i, none⟩ u) := fun Q hq => kp_set i hq u
 refine ⟨vl, h1, ?_, fun x hx => ⟨(h3 x hx).1.kp (hk _ (fun hj => hS hj.1)), (h3 x hx).2.kp (hk _ (fun hj => hS hj.1))⟩⟩
 obtain ⟨e1, e2⟩ := h2
 refine ⟨e1, ?_⟩
 rcases e2 with hn | ⟨g, cap, cur, rfl, hb, hg, rest⟩
 · exact .inl hn
 · exact .inr ⟨g, cap, cur, rfl, hb, (Below.heap_setCell w ⟨k, i, none⟩ u g (fun e => hne (by subst e; rfl))).trans hg, rest⟩
theorem ownT_lt {T B : Nat} {v : Value} {l : List Nd} (h : OwnT T B S w v l) : ∀ j, v.ownBlock = some j → B ≤ j ∧ j < w.heap.size := by
 obtain ⟨vl, -, hr, -⟩ := h
 exact fun j hj => hr.lt j hj
set_option maxRecDepth 100000 in
set_option maxHeartbeats 3200000 in
theorem casc_step (hL : LOk L) (hall : ∀ g, g ≤ f → PA L bad g) (hP : Pr b L tb tc bad a d w) (ha : a < L.length) (hd : d ≤ 40) (hf : 16 * (L.length - a) + 6 ≤ f + 1) :
  Calls Tryz.prog 178 #[.pointer (some ⟨b, 0, none⟩)] w (NdO b L tb tc bad d (New w) (cascP L bad (f + 1) d a) w) := by
 have hlen := hL.len
 have hbl := hP.blk.lt
 have htl := hP.lt
 have h := hall f (Nat.le_refl _)
 obtain ⟨i0, hi0, hz0, hz1, hz2⟩ := info_parts (show (Tryz.prog.info? NDT).map (fun i => (i.zero, i.size, i.bytes)) = some (some (.agg #[.int .i64 0, .string ⟨#[]⟩, .int .i64 0, .slice none 0 0, .slice none 0 0, .int .i64 0]), 6, 88) by kernel_rfl)
 have tsl : Tryz.prog.underlying 26 = some (.slice NDT) := by kernel_rfl
 have hX := alloc_bel w (.cells z6 NDT)
 have HC := Lib.hid (h.kwd (hP.bel hX) ha hd (by omega))
 have hres := (PB.all (bad := bad) hL f).kwd d a ha
 obtain ⟨R, hR⟩ : ∃ R, cascP L bad (f + 1) d a = R := ⟨_, rfl⟩
 rw [hR]
 rw [cascP] at hR
 obtain ⟨E, hE⟩ : ∃ E, kwdP L bad f d a = E := ⟨_, rfl⟩
 rw [hE] at HC hres hR
 have HR := Lib.hid hR
 have HX := Lib.hid hX
 have HALL := Lib.hid hall
 have HL := Lib.hid hL
 clear hX hE h hP hR hall hL
 go_enter Tryz.func178, Tryz.ntmps178
 go_wp2_with fail
 refine HC.out.mono ?_; intro e w1 ht
 cases E with
 | error y =>
  obtain ⟨rfl, hm⟩ := ht
  have hR := HR.out
  simp only [bind, Except.bind] at hR
  subst hR
  go_wp2_with fail
  exact ⟨rfl, rfl, (Mv.of_bel HX.out).trans hm⟩
 | ok y =>
  obtain ⟨n, s, a1⟩ := y
  have hR := HR.out
  simp only [bind, Except.bind] at hR
  replace HR := Lib.hid hR
  clear hR
  obtain ⟨v, hv, rfl, hP1, hm1⟩ := ht
  obtain ⟨ka, kc, na, nc, rfl, hT, hN⟩ := hv.form
  obtain ⟨r1, r2, -, -⟩ := hres
  simp only at r1 r2
  have hs1 := hm1.size
  simp only [World.size_alloc] at hs1
  have hM1 := (Mv.of_bel (b := b) HX.out).trans hm1
  have hZ1 : Blk NDT w.heap.size z6 w1 := (hm1.block _ (by simp) (by omega)).trans (Blk.made w)
  have hT1 := hT.mono (S' := fun j => New w j ∧ j ≠ w.heap.size ∧ j < w1.heap.size) (fun j hj hl => by unfold New at *; simp at hj; omega)
  have hN1 := hN.mono (S' := fun j => New w j ∧ j ≠ w.heap.size ∧ j < w1.heap.size) (fun j hj hl => by unfold New at *; simp at hj; omega)
  have hbbA := alloc_bel w1 (.cells #[.int .i64 n.kind, .string ⟨n.name.toArray⟩, .int .i64 n.num, .slice ka n.kids.length kc, .slice na n.names.length nc, .int .i64 n.at_] NDT)
  have hMkA := Blk.made (T := NDT) (cs := #[.int .i64 n.kind, .string ⟨n.name.toArray⟩, .int .i64 n.num, .slice ka n.kids.length kc, .slice na n.names.length nc, .int .i64 n.at_]) w1
  have hszA : (w1.alloc (.cells #[.int .i64 n.kind, .string ⟨n.name.toArray⟩, .int .i64 n.num, .slice ka n.kids.length kc, .slice na n.names.length nc, .int .i64 n.at_] NDT)).heap.size = w1.heap.size + 1 := by simp
  have hP2 := hP1.bel hbbA
  have hM2 := hM1.alloc (.cells #[.int .i64 n.kind, .string ⟨n.name.toArray⟩, .int .i64 n.num, .slice ka n.kids.length kc, .slice na n.names.length nc, .int .i64 n.at_] NDT)
  have hZ2 := hZ1.alloc (.cells #[.int .i64 n.kind, .string ⟨n.name.toArray⟩, .int .i64 n.num, .slice ka n.kids.length kc, .slice na n.names.length nc, .int .i64 n.at_] NDT)
  have hT2 := hT1.bel hbbA
  have hN2 := hN1.below hbbA
  obtain ⟨W2, halA⟩ : ∃ W, w1.alloc (.cells #[.int .i64 n.kind, .string ⟨n.name.toArray⟩, .int .i64 n.num, .slice ka n.kids.length kc, .slice na n.names.length nc, .int .i64 n.at_] NDT) = W := ⟨_, rfl⟩
  rw [halA] at hMkA hszA hP2 hM2 hZ2 hT2 hN2
  clear hbbA
  have HI := is_any hP2 r2 10
  have HSP := fun w' (hb : Below W2.heap.size W2 w') => stop_any (hP2.bel hb) r2
  obtain ⟨q, hq⟩ : ∃ t, isK L 10 a1 = t := ⟨_, rfl⟩
  have HQ := Lib.hid hq
  rw [hq] at HI
  replace HI := Lib.hid HI
  have HSP := Lib.hid HSP
  have HP2 := Lib.hid hP2
  have HM2 := Lib.hid hM2
  have HZ2 := Lib.hid hZ2
  have HT2 := Lib.hid hT2
  have HN2 := Lib.hid hN2
  have HB2 := Lib.hid hMkA
  clear hv hm1 hP1 hT hN hZ1 hM1 hT1 hN1 hP2 hM2 hZ2 hT2 hN2 hMkA hq
  unfold ndA
  go_wp2_with fail
  refine HI.out.mono ?_; rintro e w3 ⟨rfl, hb3⟩
  have hs3 := hb3.size
  have hB3 := HB2.out.below hb3 (by omega)
  have hZ3 : Blk NDT w.heap.size #[.int .i64 0, .string ⟨#[]⟩, .int .i64 0, .slice none 0 0, .slice none 0 0, .int .i64 0] w3 := HZ2.out.below hb3 (by omega)
  have e0 := hB3.c 0 _ rfl
  have e1 := hB3.c 1 _ rfl
  have e2 := hB3.c 2 _ rfl
  have e3 := hB3.c 3 _ rfl
  have e4 := hB3.c 4 _ rfl
  have e5 := hB3.c 5 _ rfl
  have hP3 := HP2.out.bel hb3
  have hM3 := HM2.out.trans (Mv.of_bel hb3)
  have hT3 := HT2.out.bel hb3
  have hN3 := HN2.out.below hb3
  cases q with
  | false =>
   have hR := HR.out
   rw [if_neg (by rw [HQ.out]; simp)] at hR
   subst hR
   have z0 := hZ3.c 0 _ rfl
   have z1 := hZ3.c 1 _ rfl
   have z2 := hZ3.c 2 _ rfl
   have z3 := hZ3.c 3 _ rfl
   have z4 := hZ3.c 4 _ rfl
   have z5 := hZ3.c 5 _ rfl
   have zf := hZ3.fz
   have HP3 := Lib.hid hP3
   have HM3 := Lib.hid hM3
   have HT3 := Lib.hid hT3
   have HN3 := Lib.hid hN3
   clear hP3 hM3 hT3 hN3 hB3 hZ3 hb3 HB2 HZ2 HT2 HN2 HM2 HP2 halA
   go_wp2_with fail
   refine bodyPost_ret (v := .agg #[.int .i64 n.kind, .string ⟨n.name.toArray⟩, .int .i64 n.num, .slice ka n.kids.length kc, .slice na n.names.length nc, .int .i64 n.at_]) (by simp [results, Tryz.results178, go_sem, ndA, z0, z1, z2, z3, z4, z5]) rfl ?_
   refine ⟨_, ⟨_, _, rfl, (HT3.out.kp (kp_set6 ?_)).mono (fun j hj _ => hj.1), (HN3.out.kp (kp_set6 ?_)).mono (fun j hj _ => hj.1)⟩, rfl, pr_far6 HP3.out (by omega) (by omega), mv_set6 HM3.out (Nat.le_refl _)⟩
   all_goals simp
  | true =>
   have hR := HR.out
   rw [if_pos HQ.out] at hR
   cases s with
   | false =>
    rw [if_neg (by simp)] at hR
    subst hR
    have HM3 := Lib.hid hM3
    clear hP3 hM3 hT3 hN3 hB3 hZ3 HB2 HZ2 HT2 HN2 HM2 HP2 halA
    go_wp2_with fail
    refine (HSP.out w3 hb3).mono ?_; rintro e w4 ⟨rfl, hm4⟩
    go_wp2_with fail
    exact ⟨rfl, rfl, HM3.out.trans hm4⟩
   | true =>
    rw [if_pos rfl] at hR
    obtain ⟨R2, hR2⟩ : ∃ R2, semiP L bad f d a1 [n] = R2 := ⟨_, rfl⟩
    rw [hR2] at hR
    replace HR := Lib.hid hR
    have HR2 := Lib.hid hR2
    have hO4 := ownT_lit (B := w.heap.size + 1) (S := fun j => New w j ∧ j ≠ w.heap.size ∧ j < w3.heap.size) (by omega) (hT3.mono (fun j hj hl => ⟨hj.1, hj.2.1, hl⟩)) (hN3.mono (fun j hj hl => ⟨hj.1, hj.2.1, hl⟩)) (by omega)
    clear hR hR2
    have hbbB := alloc_bel w3 (.cells #[.int .i64 n.kind, .string ⟨n.name.toArray⟩, .int .i64 n.num, .slice ka n.kids.length kc, .slice na n.names.length nc, .int .i64 n.at_] NDT)
    have hMkB := Blk.made (T := NDT) (cs := #[.int .i64 n.kind, .string ⟨n.name.toArray⟩, .int .i64 n.num, .slice ka n.kids.length kc, .slice na n.names.length nc, .int .i64 n.at_]) w3
    have hszB : (w3.alloc (.cells #[.int .i64 n.kind, .string ⟨n.name.toArray⟩, .int .i64 n.num, .slice ka n.kids.length kc, .slice na n.names.length nc, .int .i64 n.at_] NDT)).heap.size = w3.heap.size + 1 := by simp
    have hP4 := hP3.bel hbbB
    have hM4 := hM3.alloc (.cells #[.int .i64 n.kind, .string ⟨n.name.toArray⟩, .int .i64 n.num, .slice ka n.kids.length kc, .slice na n.names.length nc, .int .i64 n.at_] NDT)
    have hZ4 := hZ3.alloc (.cells #[.int .i64 n.kind, .string ⟨n.name.toArray⟩, .int .i64 n.num, .slice ka n.kids.length kc, .slice na n.names.length nc, .int .i64 n.at_] NDT)
    have hB4 := hB3.alloc (.cells #[.int .i64 n.kind, .string ⟨n.name.toArray⟩, .int .i64 n.num, .slice ka n.kids.length kc, .slice na n.names.length nc, .int .i64 n.at_] NDT)
    unfold ndA at hO4
    obtain ⟨W4, halB⟩ : ∃ W, w3.alloc (.cells #[.int .i64 n.kind, .string ⟨n.name.toArray⟩, .int .i64 n.num, .slice ka n.kids.length kc, .slice na n.names.length nc, .int .i64 n.at_] NDT) = W := ⟨_, rfl⟩
    rw [halB] at hO4 hMkB hszB hP4 hM4 hZ4 hB4
    clear hbbB
    have g0 := hB4.c 0 _ rfl
    have g1 := hB4.c 1 _ rfl
    have g2 := hB4.c 2 _ rfl
    have g3 := hB4.c 3 _ rfl
    have g4 := hB4.c 4 _ rfl
    have g5 := hB4.c 5 _ rfl
    have hbbC := alloc_bel W4 (.cells #[.int .i64 8, .string ⟨#[]⟩, .int .i64 0, .slice (some ⟨w3.heap.size, 0, none⟩) 1 1, .slice none 0 0, .int .i64 n.at_] NDT)
    have hMkC := Blk.made (T := NDT) (cs := #[.int .i64 8, .string ⟨#[]⟩, .int .i64 0, .slice (some ⟨w3.heap.size, 0, none⟩) 1 1, .slice none 0 0, .int .i64 n.at_]) W4
    have hszC : (W4.alloc (.cells #[.int .i64 8, .string ⟨#[]⟩, .int .i64 0, .slice (some ⟨w3.heap.size, 0, none⟩) 1 1, .slice none 0 0, .int .i64 n.at_] NDT)).heap.size = W4.heap.size + 1 := by simp
    have hP5 := hP4.bel hbbC
    have hM5 := hM4.alloc (.cells #[.int .i64 8, .string ⟨#[]⟩, .int .i64 0, .slice (some ⟨w3.heap.size, 0, none⟩) 1 1, .slice none 0 0, .int .i64 n.at_] NDT)
    have hZ5 := hZ4.alloc (.cells #[.int .i64 8, .string ⟨#[]⟩, .int .i64 0, .slice (some ⟨w3.heap.size, 0, none⟩) 1 1, .slice none 0 0, .int .i64 n.at_] NDT)
    have hO5 := hO4.bel hbbC
    obtain ⟨W5, halC⟩ : ∃ W, W4.alloc (.cells #[.int .i64 8, .string ⟨#[]⟩, .int .i64 0, .slice (some ⟨w3.heap.size, 0, none⟩) 1 1, .slice none 0 0, .int .i64 n.at_] NDT) = W := ⟨_, rfl⟩
    rw [halC] at hMkC hszC hP5 hM5 hZ5 hO5
    clear hbbC
    rw [hszB] at hMkC
    have hO5 : OwnT NDT (w.heap.size + 1) (fun j => New w j ∧ j ≠ w.heap.size ∧ j ≠ w3.heap.size + 1) W5 (.slice (some ⟨w3.heap.size, 0, none⟩) 1 1) [n] := OwnT.mono hO5 (fun j hj _ => by unfold New at *; omega)
    have HP5 := Lib.hid hP5
    have HM5 := Lib.hid hM5
    have HZ5 := Lib.hid hZ5
    have HO5 := Lib.hid hO5
    have HB5 := Lib.hid hMkC
    clear hP3 hM3 hT3 hN3 hB3 hZ3 HB2 HZ2 HT2 HN2 HM2 HP2 hb3 hP4 hM4 hZ4 hO4 hP5 hM5 hZ5 hO5 hMkB hMkC HSP
    go_upto_region 7 with fail
    clear e0 e1 e2 e3 e4 e5 g0 g1 g2 g3 g4 g5 hB4 halA halB halC
    go_loopw [] (fun wr => ∃ (k g : Nat) (out : List Nd) (kg kq : Nat), k < L.length ∧ out.length ≤ k ∧ 1 ≤ out.length ∧ 16 * (L.length - k) + 1 ≤ g ∧ g ≤ f ∧ Hid (semiP L bad g d k out = R2) ∧ Hid (OwnT NDT (w.heap.size + 1) (fun j => New w j ∧ j ≠ w.heap.size ∧ j ≠ w3.heap.size + 1) wr (.slice (some ⟨kg, 0, none⟩) out.length kq) out) ∧ kg ≠ w3.heap.size + 1 ∧ Hid (Blk NDT (w3.heap.size + 1) #[.int .i64 8, .string ⟨#[]⟩, .int .i64 0, .slice (some ⟨kg, 0, none⟩) out.length kq, .slice none 0 0, .int .i64 n.at_] wr) ∧ Hid (Blk NDT w.heap.size z6 wr) ∧ Hid (Pr b L tb tc bad k d wr) ∧ Hid (Mv b w wr) ∧ w3.heap.size + 1 < wr.heap.size) (fun wr => L.length - atP b wr)
    case atStart => exact ⟨a1, f, [n], w3.heap.size, 1, r2, by simp; omega, by simp, by omega, Nat.le_refl _, HR2, HO5, by omega, HB5, HZ5, HP5, HM5, by omega⟩
    case round =>
     obtain ⟨k, g, out, kg, kq, hk, hok, ho1, hg, hgf, HEk, HOw, hkg, HBk, HZk, HPk, HMv, hlt⟩ := hrel
     have hatk := HPk.out.at_
     have hrd := semi_round HL.out hk hg HEk.out
     have HI := Lib.hid (is_any HPk.out hk 10)
     obtain ⟨q, hq⟩ : ∃ t, isK L 10 k = t := ⟨_, rfl⟩
     obtain ⟨t, ht⟩ : ∃ t, now L k = t := ⟨_, rfl⟩
     rw [hq] at HI hrd
     rw [ht] at hrd
     have HNX := fun w' (hb : Below wr.heap.size wr w') => next_any (HPk.out.bel hb) hk hlen
     rw [ht] at HNX
     replace HNX := Lib.hid HNX
     have HRD := Lib.hid hrd
     have hms := HMv.out.size
     have HOL := Lib.hid (ownT_lt HOw.out)
     clear hrd hq ht HEk HO5 HB5 HZ5 HP5 HM5 HR2
     go_wp2_with fail
     refine HI.out.mono ?_; rintro e w6 ⟨rfl, hb6⟩
     have hs6 := hb6.size
     cases q with
     | false =>
      have hEE := HRD.out.1 (by first | rfl | trivial)
      subst hEE
      have hR := HR.out
      simp only [bind, Except.bind] at hR
      subst hR
      have hB6 := HBk.out.below hb6 (by omega)
      have hZ6 : Blk NDT w.heap.size #[.int .i64 0, .string ⟨#[]⟩, .int .i64 0, .slice none 0 0, .slice none 0 0, .int .i64 0] w6 := HZk.out.below hb6 (by omega)
      have hT6 := (HOw.out.bel hb6).tree
      have hP6 := HPk.out.bel hb6
      have hM6 := HMv.out.trans (Mv.of_bel hb6)
      have hkl := HOL.out kg rfl
      have e0 := hB6.c 0 _ rfl
      have e1 := hB6.c 1 _ rfl
      have e2 := hB6.c 2 _ rfl
      have e3 := hB6.c 3 _ rfl
      have e4 := hB6.c 4 _ rfl
      have e5 := hB6.c 5 _ rfl
      have z0 := hZ6.c 0 _ rfl
      have z1 := hZ6.c 1 _ rfl
      have z2 := hZ6.c 2 _ rfl
      have z3 := hZ6.c 3 _ rfl
      have z4 := hZ6.c 4 _ rfl
      have z5 := hZ6.c 5 _ rfl
      have zf := hZ6.fz
      have HT6 := Lib.hid hT6
      have HP6 := Lib.hid hP6
      have HM6 := Lib.hid hM6
      clear HRD HBk HZk HPk HMv HOw hB6 hZ6 hT6 hP6 hM6 hb6
      go_wp2_with fail
      refine bodyPost_ret (v := .agg #[.int .i64 8, .string ⟨#[]⟩, .int .i64 0, .slice (some ⟨kg, 0, none⟩) out.length kq, .slice none 0 0, .int .i64 n.at_]) (by simp [results, Tryz.results178, go_sem, ndA, z0, z1, z2, z3, z4, z5]) rfl ?_
      refine ⟨_, ⟨_, _, rfl, (HT6.out.kp (kp_set6 ?_)).mono (fun j hj _ => ?_), rd_none _ _⟩, rfl, pr_far6 HP6.out (by omega) (by omega), mv_set6 HM6.out (Nat.le_refl _)⟩
      · intro hj
        rcases hj with hj | hj
        · exact hj.2.1 rfl
        · have hj : some kg = some w.heap.size := hj
          cases hj
          omega
      · rcases hj with hj | hj
        · exact hj.1
        · have hj : some kg = some j := hj
          cases hj
          unfold New
          omega
     | true =>
      obtain ⟨hk1, g', rfl, hRR⟩ := HRD.out.2 (by first | rfl | trivial)
      have HMSG := fun (w' : World) (hp : Pr b L tb tc bad (k + 1) d w') => (HALL.out g' (by omega)).msg hp hk1 hd (NdAt.leaf (fun _ => False) w' 11 0 t.at_ []) (fun h => h) (by omega)
      have hres := (PB.all (bad := bad) HL.out g').msg d (k + 1) (.mk 11 [] 0 [] [] t.at_) hk1 (leaf_in (by omega) (by omega))
      obtain ⟨E, hE⟩ : ∃ E, msgP L bad g' d (k + 1) (.mk 11 [] 0 [] [] t.at_) = E := ⟨_, rfl⟩
      rw [hE] at HMSG hRR hres
      replace HMSG := Lib.hid HMSG
      have HRR := Lib.hid hRR
      clear HRD hE hRR
      go_wp2_with fail
      refine (HNX.out w6 hb6).mono ?_; rintro e w7 ⟨rfl, hP7, hm7⟩
      have hs7 := hm7.size
      have hB7 := (hm7.block _ (by omega) (by omega)).trans (HBk.out.below hb6 (by omega))
      have hZ7 := (hm7.block _ (by omega) (by omega)).trans (HZk.out.below hb6 (by omega))
      have hB7 : Blk NDT (w3.heap.size + 1) #[.int .i64 8, .string ⟨#[]⟩, .int .i64 0, .slice (some ⟨kg, 0, none⟩) out.length kq, .slice none 0 0, .int .i64 n.at_] w7 := hB7
      have hZ7 : Blk NDT w.heap.size z6 w7 := hZ7
      have hO7 := ownT_mv (HOw.out.bel hb6) hm7 (by omega) (by unfold New; omega)
      have hM7 := (HMv.out.trans (Mv.of_bel hb6)).trans hm7
      have hbbD := alloc_bel w7 (.cells #[.int .i64 11, .string ⟨#[]⟩, .int .i64 0, .slice none 0 0, .slice none 0 0, .int .i64 t.at_] NDT)
      have hMkD := Blk.made (T := NDT) (cs := #[.int .i64 11, .string ⟨#[]⟩, .int .i64 0, .slice none 0 0, .slice none 0 0, .int .i64 t.at_]) w7
      have hszD : (w7.alloc (.cells #[.int .i64 11, .string ⟨#[]⟩, .int .i64 0, .slice none 0 0, .slice none 0 0, .int .i64 t.at_] NDT)).heap.size = w7.heap.size + 1 := by simp
      have hP8 := hP7.bel hbbD
      have hM8 := hM7.alloc (.cells #[.int .i64 11, .string ⟨#[]⟩, .int .i64 0, .slice none 0 0, .slice none 0 0, .int .i64 t.at_] NDT)
      have hZ8 := hZ7.alloc (.cells #[.int .i64 11, .string ⟨#[]⟩, .int .i64 0, .slice none 0 0, .slice none 0 0, .int .i64 t.at_] NDT)
      have hB8 := hB7.alloc (.cells #[.int .i64 11, .string ⟨#[]⟩, .int .i64 0, .slice none 0 0, .slice none 0 0, .int .i64 t.at_] NDT)
      have hO8 := hO7.bel hbbD
      obtain ⟨W8, halD⟩ : ∃ W, w7.alloc (.cells #[.int .i64 11, .string ⟨#[]⟩, .int .i64 0, .slice none 0 0, .slice none 0 0, .int .i64 t.at_] NDT) = W := ⟨_, rfl⟩
      rw [halD] at hMkD hszD hP8 hM8 hZ8 hB8 hO8
      clear hbbD
      have HP8 := Lib.hid hP8
      have HM8 := Lib.hid hM8
      have HZ8 := Lib.hid hZ8
      have HB8 := Lib.hid hB8
      have HO8 := Lib.hid hO8
      have HK8 := Lib.hid hMkD
      clear HBk HZk HOw HPk HMv hP7 hm7 hB7 hZ7 hO7 hM7 hP8 hM8 hZ8 hB8 hO8 hMkD hb6
      have F3 := fld3
      unfold ptV
      go_wp2_with fail
      have hS : ∀ v, (Blk NDT (w3.heap.size + 1) #[.int .i64 8, .string ⟨#[]⟩, .int .i64 0, .slice (some ⟨kg, 0, none⟩) out.length kq, .slice none 0 0, .int .i64 n.at_] v ∧ Blk NDT w7.heap.size #[.int .i64 11, .string ⟨#[]⟩, .int .i64 0, .slice none 0 0, .slice none 0 0, .int .i64 t.at_] v) → (v.cell? ⟨w3.heap.size + 1, 3, none⟩ = some (.slice (some ⟨kg, 0, none⟩) out.length kq) ∧ v.cell? ⟨w7.heap.size, 0, none⟩ = some (.int .i64 11) ∧ v.cell? ⟨w7.heap.size, 1, none⟩ = some (.string ⟨#[]⟩) ∧ v.cell? ⟨w7.heap.size, 2, none⟩ = some (.int .i64 0) ∧ v.cell? ⟨w7.heap.size, 3, none⟩ = some (.slice none 0 0) ∧ v.cell? ⟨w7.heap.size, 4, none⟩ = some (.slice none 0 0) ∧ v.cell? ⟨w7.heap.size, 5, none⟩ = some (.int .i64 t.at_)) := fun v hv => ⟨hv.1.c 3 _ rfl, hv.2.c 0 _ rfl, hv.2.c 1 _ rfl, hv.2.c 2 _ rfl, hv.2.c 3 _ rfl, hv.2.c 4 _ rfl, hv.2.c 5 _ rfl⟩
      refine region_pk (fun c a a' w h hq => (show a.defers = [] ∧ _ from ⟨h ▸ (show a'.defers = [] ∧ _ from hq).1, (show a'.defers = [] ∧ _ from hq).2⟩)) (fun HPQ => ?_)
      refine Hd.start (fun v => (v.cell? ⟨w3.heap.size + 1, 3, none⟩ = some (.slice (some ⟨kg, 0, none⟩) out.length kq) ∧ v.cell? ⟨w7.heap.size, 0, none⟩ = some (.int .i64 11) ∧ v.cell? ⟨w7.heap.size, 1, none⟩ = some (.string ⟨#[]⟩) ∧ v.cell? ⟨w7.heap.size, 2, none⟩ = some (.int .i64 0) ∧ v.cell? ⟨w7.heap.size, 3, none⟩ = some (.slice none 0 0) ∧ v.cell? ⟨w7.heap.size, 4, none⟩ = some (.slice none 0 0) ∧ v.cell? ⟨w7.heap.size, 5, none⟩ = some (.int .i64 t.at_))) (by kernel_rfl) (hS _ ⟨HB8.out.drewN 1, HK8.out.drewN 1⟩) (fun hH0 => ?_)
      refine Hd.tk 0 1 hH0 ?_ (hQ := fun c a w h => HPQ c _ _ w (put_defers a _ _) h)
      refine Hd.tk 1 6 hH0 ?_ (hQ := fun c a w h => HPQ c _ _ w (put_defers a _ _) h)
      refine Hd.tk 2 4 hH0 ?_ (hQ := fun c a w h => HPQ c _ _ w (put_defers a _ _) h)
      refine Hd.tk 3 4 hH0 ?_ (hQ := fun c a w h => HPQ c _ _ w (put_defers a _ _) h)
      refine Hd.on 4 (fun K hK => ?_)
      go_simp
      go_wp2_with fail
      refine (HMSG.out W8.drew HP8.out.drew).mono ?_; intro e w9 ht9
      cases E with
      | error y =>
       obtain ⟨rfl, hm⟩ := ht9
       have hR := HRR.out
       simp only [bind, Except.bind] at hR
       subst hR
       have hR := HR.out
       simp only [bind, Except.bind] at hR
       subst hR
       go_wp2_with fail
       exact ⟨rfl, rfl, (HM8.out.drew).trans hm⟩
      | ok y =>
       obtain ⟨m, k2⟩ := y
       have hR := HRR.out
       simp only [bind, Except.bind] at hR
       replace HRR := Lib.hid hR
       clear hR
       obtain ⟨v, hv, rfl, hP9, hm9⟩ := ht9
       obtain ⟨la, lc, ma, mc, rfl, hTm, hNm⟩ := hv.form
       obtain ⟨q1, q2, -, -⟩ := hres
       simp only at q1 q2
       have hs9 := hm9.size
       have hs9 : W8.heap.size ≤ w9.heap.size := hs9
       have hB9 : Blk NDT (w3.heap.size + 1) #[.int .i64 8, .string ⟨#[]⟩, .int .i64 0, .slice (some ⟨kg, 0, none⟩) out.length kq, .slice none 0 0, .int .i64 n.at_] w9 := (hm9.block _ (show w3.heap.size + 1 < W8.heap.size by omega) (by omega)).trans HB8.out
       have hK9 : Blk NDT w7.heap.size #[.int .i64 11, .string ⟨#[]⟩, .int .i64 0, .slice none 0 0, .slice none 0 0, .int .i64 t.at_] w9 := (hm9.block _ (show w7.heap.size < W8.heap.size by omega) (by omega)).trans HK8.out
       have hZ9 : Blk NDT w.heap.size z6 w9 := (hm9.block _ (show w.heap.size < W8.heap.size by omega) (by omega)).trans HZ8.out
       have hO9 := ownT_mv (w := W8.drew) (HO8.out.kp (Nat.le_refl _) (fun _ _ _ => rfl)) hm9 (by omega) (by unfold New; omega)
       have hM9 := (HM8.out.drew).trans hm9
       have hkl := HOL.out kg rfl
       have hTm1 := hTm.mono (S' := fun j => (fun j => New w j ∧ j ≠ w.heap.size ∧ j ≠ w3.heap.size + 1) j ∧ (Value.slice (some ⟨kg, 0, none⟩) out.length kq).ownBlock ≠ some j) (fun j hj hl => by
        rcases hj with hj | hj
        · exact hj.elim
        · have hj : W8.heap.size ≤ j := hj
          refine ⟨⟨by unfold New; omega, by omega, by omega⟩, fun h => ?_⟩
          have h : some kg = some j := h
          cases h
          omega)
       have hNm1 := hNm.mono (S' := fun j => (fun j => New w j ∧ j ≠ w.heap.size ∧ j ≠ w3.heap.size + 1) j ∧ (Value.slice (some ⟨kg, 0, none⟩) out.length kq).ownBlock ≠ some j) (fun j hj hl => by
        rcases hj with hj | hj
        · exact hj.elim
        · have hj : W8.heap.size ≤ j := hj
          refine ⟨⟨by unfold New; omega, by omega, by omega⟩, fun h => ?_⟩
          have h : some kg = some j := h
          cases h
          omega)
       have HB9 := Lib.hid hB9
       have HK9 := Lib.hid hK9
       have HZ9 := Lib.hid hZ9
       have HO9 := Lib.hid hO9
       have HM9 := Lib.hid hM9
       have HP9 := Lib.hid hP9
       have HTm := Lib.hid hTm1
       have HNm := Lib.hid hNm1
       clear hv hP9 hm9 hTm hNm hB9 hK9 hZ9 hO9 hM9 hTm1 hNm1 HP8 HM8 HZ8 HB8 HO8 HK8
       unfold ndA
       go_wp2_with fail
       refine hK.out _ _ (hS _ ⟨HB9.out, HK9.out⟩) (fun hH1 => ?_)
       clear hK K
       try simp only [Act.put, Hd.sa, Hd.sz, Hd.ss]
       have hP9 := HP9.out
       have hM9 := HM9.out
       have hZ9 := HZ9.out
       have hB9 := HB9.out
       have hO9 := HO9.out
       have hK9 := HK9.out
       have hTm9 := HTm.out
       have hNm9 := HNm.out
       have hbbF := alloc_bel w9 (.cells #[.int .i64 m.kind, .string ⟨m.name.toArray⟩, .int .i64 m.num, .slice la m.kids.length lc, .slice ma m.names.length mc, .int .i64 m.at_] NDT)
       have hMkF := Blk.made (T := NDT) (cs := #[.int .i64 m.kind, .string ⟨m.name.toArray⟩, .int .i64 m.num, .slice la m.kids.length lc, .slice ma m.names.length mc, .int .i64 m.at_]) w9
       have hszF : (w9.alloc (.cells #[.int .i64 m.kind, .string ⟨m.name.toArray⟩, .int .i64 m.num, .slice la m.kids.length lc, .slice ma m.names.length mc, .int .i64 m.at_] NDT)).heap.size = w9.heap.size + 1 := by simp
       have hP10 := hP9.bel hbbF
       have hM10 := hM9.alloc (.cells #[.int .i64 m.kind, .string ⟨m.name.toArray⟩, .int .i64 m.num, .slice la m.kids.length lc, .slice ma m.names.length mc, .int .i64 m.at_] NDT)
       have hZ10 := hZ9.alloc (.cells #[.int .i64 m.kind, .string ⟨m.name.toArray⟩, .int .i64 m.num, .slice la m.kids.length lc, .slice ma m.names.length mc, .int .i64 m.at_] NDT)
       have hB10 := hB9.alloc (.cells #[.int .i64 m.kind, .string ⟨m.name.toArray⟩, .int .i64 m.num, .slice la m.kids.length lc, .slice ma m.names.length mc, .int .i64 m.at_] NDT)
       have hK10 := hK9.alloc (.cells #[.int .i64 m.kind, .string ⟨m.name.toArray⟩, .int .i64 m.num, .slice la m.kids.length lc, .slice ma m.names.length mc, .int .i64 m.at_] NDT)
       have hO10 := hO9.bel hbbF
       have hT10 := hTm9.bel hbbF
       have hN10 := hNm9.below hbbF
       obtain ⟨W10, halF⟩ : ∃ W, w9.alloc (.cells #[.int .i64 m.kind, .string ⟨m.name.toArray⟩, .int .i64 m.num, .slice la m.kids.length lc, .slice ma m.names.length mc, .int .i64 m.at_] NDT) = W := ⟨_, rfl⟩
       rw [halF] at hMkF hszF hP10 hM10 hZ10 hB10 hK10 hO10 hT10 hN10
       clear hbbF
       obtain ⟨vl, hvl, hrow, hsub⟩ := hO10
       have hvll : vl.length = out.length := by have := congrArg List.length hvl; rwa [List.length_map] at this
       have hnews := World.news_of_block hMkF
       rw [hvll] at hrow
       have HP10 := Lib.hid hP10
       have HM10 := Lib.hid hM10
       have HZ10 := Lib.hid hZ10
       have HB10 := Lib.hid hB10
       have HK10 := Lib.hid hK10
       have HT10 := Lib.hid hT10
       have HN10 := Lib.hid hN10
       have HROW := Lib.hid hrow
       have HSUB := Lib.hid hsub
       have HVL := Lib.hid hvl
       have HVLL := Lib.hid hvll
       have HNEWS := Lib.hid hnews
       clear hP9 hM9 hZ9 hB9 hO9 hK9 hTm9 hNm9 hP10 hM10 hZ10 hB10 hK10 hT10 hN10 hrow hsub hvl hvll hnews hMkF HP9 HM9 HZ9 HB9 HO9 HK9 HTm HNm
       refine Hd.on 5 (fun K hK => ?_)
       go_simp
       go_wp2_with fail
       refine hK.out _ _ (hS _ ⟨HB10.out, HK10.out⟩) (fun hH2 => ?_)
       clear hK K
       try simp only [Act.put, Hd.sa, Hd.sz, Hd.ss]
       refine Hd.on 6 (fun K hK => ?_)
       refine step_append_lies _ rfl (.tmp 32) (.tmp 36) 26 rfl (w.heap.size + 1) NDT i0 (.agg #[.int .i64 0, .string ⟨#[]⟩, .int .i64 0, .slice none 0 0, .slice none 0 0, .int .i64 0]) 6 88 tsl hi0 hz0 hz1 hz2 rfl (by decide) _ out.length (flatN vl) (by simp [Act.eval]) HROW.out ⟨w9.heap.size, 0, none⟩ 1 1 [.int .i64 m.kind, .string ⟨m.name.toArray⟩, .int .i64 m.num, .slice la m.kids.length lc, .slice ma m.names.length mc, .int .i64 m.at_] (by simp [Act.eval]) rfl HNEWS.out (fun u hu => by simp at hu; rcases hu with rfl | rfl | rfl | rfl | rfl | rfl <;> rfl) (by decide) (by unfold maxLen; omega) (by omega) (by omega) _ rfl ?_
       intro gb cap w11 hown11 hgrow11 hat11 hlt11
       have hsn := own_snoc (n := out.length) (S := (fun j => New w j ∧ j ≠ w.heap.size ∧ j ≠ w3.heap.size + 1)) (x := m) (kv := .slice la m.kids.length lc) (nv := .slice ma m.names.length mc) HVLL.out.symm hgrow11.size HSUB.out HT10.out HN10.out hown11 hgrow11 hat11
       rw [HVL.out] at hsn
       have hkl := HOL.out kg rfl
       have hob : ∀ j, (Value.slice (some ⟨kg, 0, none⟩) out.length kq).ownBlock = some j → kg = j := fun j hj => by
        have hj : some kg = some j := hj
        cases hj; rfl
       have hs11 := hgrow11.size
       have hgb : gb ≠ w3.heap.size + 1 ∧ w.heap.size + 1 ≤ gb := by
        rcases hat11 with h | h
        · have := hob gb h; omega
        · omega
       have hP11 := HP10.out.grown hgrow11 (fun h => by have := hob _ h; omega) (fun h => by have := hob _ h; omega)
       have hM11 := Mv.grown HM10.out hgrow11 (fun j h => by have := hob _ h; omega)
       have hB11 : Blk NDT (w3.heap.size + 1) #[.int .i64 8, .string ⟨#[]⟩, .int .i64 0, .slice (some ⟨kg, 0, none⟩) out.length kq, .slice none 0 0, .int .i64 n.at_] w11 := (hgrow11.block _ (by omega) (fun h => by have := hob _ h.symm; omega)).trans HB10.out
       have hK11 : Blk NDT w7.heap.size #[.int .i64 11, .string ⟨#[]⟩, .int .i64 0, .slice none 0 0, .slice none 0 0, .int .i64 t.at_] w11 := (hgrow11.block _ (by omega) (fun h => by have := hob _ h.symm; omega)).trans HK10.out
       have hZ11 : Blk NDT w.heap.size z6 w11 := (hgrow11.block _ (by omega) (fun h => by have := hob _ h.symm; omega)).trans HZ10.out
       have e3 := hB11.c 3 _ rfl
       have ef := hB11.fz
       have HSN := Lib.hid hsn
       have HP11 := Lib.hid hP11
       have HM11 := Lib.hid hM11
       have HB11 := Lib.hid hB11
       have HK11 := Lib.hid hK11
       have HZ11 := Lib.hid hZ11
       clear hown11 hgrow11 hat11 hsn hP11 hM11 hB11 hK11 hZ11 HROW HSUB HT10 HN10 HP10 HM10 HB10 HK10 HZ10 HNEWS halF halD
       refine hK.out _ _ (hS _ ⟨HB11.out, HK11.out⟩) (fun hH3 => ?_)
       clear hK K
       try simp only [Act.put, Hd.sa, Hd.sz, Hd.ss]
       refine Hd.tk 7 8 hH3 ?_ (hQ := fun c a w h => HPQ c _ _ w (put_defers a _ _) h)
       refine Hd.la 8 (fun K hK => ?_)
       go_simp
       refine hK.out _ _ ?_
       clear hK K
       try simp only [Act.put, Hd.sa, Hd.sz, Hd.ss]
       go_wp2_with fail
       have hlo : (out ++ [m]).length = out.length + 1 := by simp
       have hPf := HP11.out.far (p := ⟨w3.heap.size + 1, 3, none⟩) (show b ≠ w3.heap.size + 1 by omega) (show tb ≠ w3.heap.size + 1 by omega) (.slice (some ⟨gb, 0, none⟩) (out.length + 1) cap)
       refine ⟨⟨k2, g', out ++ [m], gb, cap, q2, by rw [hlo]; omega, by rw [hlo]; omega, by omega, by omega, HRR, Lib.hid (by rw [hlo]; exact ownT_set HSN.out (fun h => by have h : some gb = some (w3.heap.size + 1) := h; cases h; omega) (by simp) _), hgb.1, Lib.hid (by rw [hlo]; exact HB11.out.set_ 3 _ _ rfl), Lib.hid (HZ11.out.far (show w.heap.size ≠ w3.heap.size + 1 by omega) _), Lib.hid hPf, Lib.hid (HM11.out.new (p := ⟨w3.heap.size + 1, 3, none⟩) (show w.heap.size ≤ w3.heap.size + 1 by omega) _), by simp [World.setCell]; omega⟩, ?_⟩
       rw [hPf.at_]; omega
end
end Pa
end Go.Proofs.YtbdgoimbddlcoaaGreatDoor
