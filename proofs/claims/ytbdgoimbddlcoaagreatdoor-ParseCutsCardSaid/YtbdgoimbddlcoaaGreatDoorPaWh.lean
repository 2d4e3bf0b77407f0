/- Package parse, the walk, 17: list (wip/gen/gen_paw17.py prints this). -/
import Derived.Test.YtbdgoimbddlcoaaGreatDoorPaHf
set_option linter.unusedVariables false
namespace Go.Proofs.YtbdgoimbddlcoaaGreatDoor
open Go.RowKit
namespace Pa
open Bs Sm Tr
open Lx (Mv)
section
variable {b : Nat} {L : List Pt} {tb tc : Nat} {bad : Int} {a d f : Nat} {w w' w0 : World} {S S' : Nat → Prop} {K : Nat} {x : Nd}
/-- What a literal array is, one deeper. -/
def innerL (L : List Pt) (bad : Int) (f d a : Nat) : PE (Nd × Nat) := elemsP L bad f d (a + 1) [] >>= fun r => .ok (.mk 4 [] 0 r.1 [] (now L a).at_, r.2 + 1)
theorem innerL_eq (f d a : Nat) : listP L bad (f + 1) d a = if 40 < d + 1 then .error (deepE L bad a) else innerL L bad f (d + 1) a := by
 rw [listP]
 by_cases h : 40 < d + 1
 · rw [if_pos h, if_pos h]
 · rw [if_neg h, if_neg h]
   rfl
theorem elems_round {g k : Nat} {out : List Nd} {R : PE (List Nd × Nat)} (hg : 16 * (L.length - k) + 3 ≤ g) (h : elemsP L bad g d k out = R) :
  (isK L 12 k = true → R = .ok (out, k)) ∧ (isK L 12 k = false → ∃ g', g = g' + 1 ∧ (elemP L bad g' d k >>= fun r => elemsP L bad g' d r.2 (out ++ [r.1])) = R) := by
 cases g with
 | zero => omega
 | succ g =>
  rw [elemsP] at h
  refine ⟨fun hq => ?_, fun hq => ?_⟩
  · rw [if_pos hq] at h; exact h.symm
  · rw [if_neg (by rw [hq]; simp)] at h
    exact ⟨g, rfl, h⟩
/-- The last node of a row is written anew. -/
theorem own_last {B g n cap : Nat} {xs : List Value} {z0 z1 z2 z3 z4 z5 v0 v1 v2 v3 v4 v5 : Value} (hx : xs.length = n * 6) (h : w.ownsRow B NDT 6 (.slice (some ⟨g, 0, none⟩) (n + 1) cap) (n + 1) (xs ++ [z0, z1, z2, z3, z4, z5])) :
  ((((((w.setCell ⟨g, n * 6, none⟩ v0).setCell ⟨g, n * 6 + 1, none⟩ v1).setCell ⟨g, n * 6 + 2, none⟩ v2).setCell ⟨g, n * 6 + 3, none⟩ v3).setCell ⟨g, n * 6 + 4, none⟩ v4).setCell ⟨g, n * 6 + 5, none⟩ v5).ownsRow B NDT 6 (.slice (some ⟨g, 0, none⟩) (n + 1) cap) (n + 1) (xs ++ [v0, v1, v2, v3, v4, v5]) := by
 have k : ∀ (i : Nat) (u : Value) (r : List Value), (xs ++ r).set (n * 6 + i) u = xs ++ r.set i u := fun i u r => by
  rw [List.set_append_right _ _ (by omega)]
  congr 1
  congr 1
  omega
 have h1 := (h.stored (n * 6 + 0) v0).1
 rw [k] at h1
 have h2 := (h1.stored (n * 6 + 1) v1).1
 rw [k] at h2
 have h3 := (h2.stored (n * 6 + 2) v2).1
 rw [k] at h3
 have h4 := (h3.stored (n * 6 + 3) v3).1
 rw [k] at h4
 have h5 := (h4.stored (n * 6 + 4) v4).1
 rw [k] at h5
 have h6 := (h5.stored (n * 6 + 5) v5).1
 rw [k] at h6
 exact h6
theorem But.drew {X : Nat → Prop} (h : But X w w') : But X w w'.drew := ⟨h.os, h.tape, h.output, h.size, h.block⟩
theorem But.grown {X : Nat → Prop} {o : Option Nat} (h : But X w0 w) (hg : w.grownBy w' o) (ho : ∀ k, o = some k → w0.heap.size ≤ k) : But X w0 w' :=
 ⟨hg.os.trans h.os, hg.tape.trans h.tape, hg.output.trans h.output, Nat.le_trans h.size hg.size, fun k hk hx => (hg.block k (Nat.lt_of_lt_of_le hk h.size) (fun e => by have := ho k e.symm; omega)).trans (h.block k hk hx)⟩
theorem grown_set6 {g i0 i1 i2 i3 i4 i5 : Nat} {v0 v1 v2 v3 v4 v5 : Value} {o : Option Nat} (hg : w.grownBy w' o) (h : o = some g ∨ g = w.heap.size) :
  w.grownBy ((((((w'.setCell ⟨g, i0, none⟩ v0).setCell ⟨g, i1, none⟩ v1).setCell ⟨g, i2, none⟩ v2).setCell ⟨g, i3, none⟩ v3).setCell ⟨g, i4, none⟩ v4).setCell ⟨g, i5, none⟩ v5) o := by
 have k : ∀ (W : World) (i : Nat) (u : Value), w.grownBy W o → w.grownBy (W.setCell ⟨g, i, none⟩ u) o := fun W i u hg => ⟨hg.os, hg.tape, hg.output, by simpa [World.setCell] using hg.size, fun k hk hne => (Below.heap_setCell W ⟨g, i, none⟩ u k (fun e => by
  have e : k = g := e
  rcases h with h | h
  · exact hne (by rw [h, e])
  · omega)).trans (hg.block k hk hne)⟩
 exact k _ _ _ (k _ _ _ (k _ _ _ (k _ _ _ (k _ _ _ (k _ _ _ hg)))))
set_option maxRecDepth 100000 in
set_option maxHeartbeats 3200000 in
theorem clo_list {k1 k2 : Nat} (hL : LOk L) (hall : ∀ g, g ≤ f → PA L bad g) (hP : Pr b L tb tc bad a d w) (ha : a < L.length) (hd : d ≤ 40) (hkk : isK L 11 a = true ∨ isK L 15 a = true) (hf : 16 * (L.length - a) + 1 ≤ f + 1)
  (hp : Blk PPT k1 #[.pointer (some ⟨b, 0, none⟩)] w) (hz : Blk NDT k2 z6 w) (hkb : k2 ≠ b) (hkt : k2 ≠ tb) (hkb1 : k1 ≠ b) (hk12 : k1 ≠ k2) :
  Calls Tryz.prog 248 #[.pointer (some ⟨k1, 0, none⟩), .pointer (some ⟨k2, 0, none⟩)] w (CloO b L tb tc bad d k2 (New w) (innerL L bad f d a) w) := by
 have hlen := hL.len
 have hbl := hP.blk.lt
 have htl := hP.lt
 have hk1l := hp.lt
 have hk2l := hz.lt
 obtain ⟨i0, hi0, hz0, hz1, hz2⟩ := info_parts (show (Tryz.prog.info? NDT).map (fun i => (i.zero, i.size, i.bytes)) = some (some (.agg #[.int .i64 0, .string ⟨#[]⟩, .int .i64 0, .slice none 0 0, .slice none 0 0, .int .i64 0]), 6, 88) by kernel_rfl)
 have tsl : Tryz.prog.underlying 26 = some (.slice NDT) := by kernel_rfl
 have hk1 : a + 1 < L.length := by rcases hkk with h | h <;> exact hL.next h (by omega) ha
 have HN := Lib.hid (next_any hP ha hlen)
 obtain ⟨R, hR⟩ : ∃ R, innerL L bad f d a = R := ⟨_, rfl⟩
 rw [hR]
 unfold innerL at hR
 obtain ⟨R2, hR2⟩ : ∃ R2, elemsP L bad f d (a + 1) [] = R2 := ⟨_, rfl⟩
 rw [hR2] at hR
 obtain ⟨t, ht⟩ : ∃ t, now L a = t := ⟨_, rfl⟩
 rw [ht] at HN hR
 have HR := Lib.hid hR
 have HR2 := Lib.hid hR2
 have p0 : w.cell? ⟨k1, 0, none⟩ = some (.pointer (some ⟨b, 0, none⟩)) := hp.c 0 _ rfl
 have HPB := Lib.hid hp
 have HZB := Lib.hid hz
 have HL := Lib.hid hL
 have HALL := Lib.hid hall
 have F3 := fld3
 clear hR hR2 ht hP hp hz hL hall hkk
 unfold ptV at HN
 go_enter Tryz.func248, Tryz.ntmps248
 go_wp2_with fail
 refine HN.out.mono ?_; rintro e w1 ⟨rfl, hP1, hm1⟩
 have hs1 := hm1.size
 have hp1 : Blk PPT k1 #[.pointer (some ⟨b, 0, none⟩)] w1 := (hm1.block _ hk1l hkb1).trans HPB.out
 have hz1 : Blk NDT k2 #[.int .i64 0, .string ⟨#[]⟩, .int .i64 0, .slice none 0 0, .slice none 0 0, .int .i64 0] w1 := (hm1.block _ hk2l hkb).trans HZB.out
 have z0 := hz1.c 0 _ rfl
 have z1 := hz1.c 1 _ rfl
 have z2 := hz1.c 2 _ rfl
 have z3 := hz1.c 3 _ rfl
 have z4 := hz1.c 4 _ rfl
 have z5 := hz1.c 5 _ rfl
 have zf := hz1.fz
 have B1 : But (fun j => j = b ∨ j = k2) w w1 := But.of_mv hm1 (.inl rfl)
 have HP1 := Lib.hid hP1
 have HPB1 := Lib.hid hp1
 have HZ1 := Lib.hid hz1
 have HB1 := Lib.hid B1
 clear hP1 hm1 hp1 hz1 B1
 go_upto_region 1 with fail
 go_loopw [] (fun wr => ∃ (k g : Nat) (out : List Nd) (ka : Option Addr) (kq : Nat), k < L.length ∧ out.length ≤ k ∧ 16 * (L.length - k) + 3 ≤ g ∧ g ≤ f ∧ Hid (elemsP L bad g d k out = R2) ∧ Hid (OwnT NDT w.heap.size (New w) wr (.slice ka out.length kq) out) ∧ Hid (Blk NDT k2 #[.int .i64 4, .string ⟨#[]⟩, .int .i64 0, .slice ka out.length kq, .slice none 0 0, .int .i64 t.at_] wr) ∧ Hid (Blk PPT k1 #[.pointer (some ⟨b, 0, none⟩)] wr) ∧ Hid (Pr b L tb tc bad k d wr) ∧ Hid (But (fun j => j = b ∨ j = k2) w wr)) (fun wr => L.length - atP b wr)
 case atStart =>
  refine ⟨a + 1, f, [], none, 0, hk1, Nat.zero_le _, by omega, Nat.le_refl _, HR2, Lib.hid (OwnT.nil _ _ _ _), Lib.hid (blk_set6 HZ1.out), Lib.hid (blk_far6 HPB1.out hk12), Lib.hid (pr_far6 HP1.out (Ne.symm hkb) (Ne.symm hkt)), Lib.hid ?_⟩
  exact (((((((HB1.out).set_ (k := k2) (.inr rfl) 0 _).set_ (k := k2) (.inr rfl) 1 _).set_ (k := k2) (.inr rfl) 2 _).set_ (k := k2) (.inr rfl) 3 _).set_ (k := k2) (.inr rfl) 4 _).set_ (k := k2) (.inr rfl) 5 _)
 case round =>
  obtain ⟨k, g, out, ka, kq, hk, hok, hg, hgf, HEk, HOw, HKk, HPBk, HPk, HBt⟩ := hrel
  have hatk := HPk.out.at_
  have hrd := elems_round hg HEk.out
  have HI := Lib.hid (is_any HPk.out hk 12)
  obtain ⟨q, hq⟩ : ∃ t, isK L 12 k = t := ⟨_, rfl⟩
  have hq12 : q = true → k + 1 < L.length := fun h => HL.out.next (hq.trans h) (by omega) hk
  rw [hq] at HI hrd
  have HRD := Lib.hid hrd
  have hsr := HBt.out.size
  have p1 : wr.cell? ⟨k1, 0, none⟩ = some (.pointer (some ⟨b, 0, none⟩)) := HPBk.out.c 0 _ rfl
  clear hrd hq HEk HP1 HPB1 HZ1 HB1 HN z0 z1 z2 z3 z4 z5 zf p0 HR2
  go_wp2_with fail
  refine HI.out.mono ?_; rintro e w2 ⟨rfl, hb2⟩
  have hs2 := hb2.size
  have hP2 := HPk.out.bel hb2
  have hp2 := HPBk.out.below hb2 (by omega)
  have hK2 := HKk.out.below hb2 (by omega)
  have hO2 := HOw.out.bel hb2
  have hB2 := HBt.out.trans (But.of hb2)
  cases q with
  | true =>
   have hEE := HRD.out.1 (by first | rfl | trivial)
   have hk3 := hq12 rfl
   subst hEE
   have hR := HR.out
   simp only [bind, Except.bind] at hR
   subst hR
   have p2 : w2.cell? ⟨k1, 0, none⟩ = some (.pointer (some ⟨b, 0, none⟩)) := hp2.c 0 _ rfl
   have c2 := hP2.c2
   have f2 := hP2.blk.fz 2
   have wk : IntKind.i64.wrap ((k : Int) + 1) = (k : Int) + 1 := IntWalk.i64_in _ (by omega)
   have hT2 : Tree (New w) w2 (.slice ka out.length kq) out := hO2.tree.mono (fun j hj _ => by
    rcases hj with hj | hj
    · exact hj
    · exact (ownT_lt hO2 j hj).1)
   have HT2 := Lib.hid hT2
   have HP2 := Lib.hid hP2
   have HK2 := Lib.hid hK2
   have HB2 := Lib.hid hB2
   clear HOw HKk HPBk HPk HBt hP2 hp2 hK2 hO2 hB2 hT2 hb2 HRD
   go_wp2_with fail
   go_end0
   exact ⟨rfl, HP2.out.setA (k + 1), ⟨_, _, _, _, HK2.out.far (p := ⟨b, 2, none⟩) hkb _, HT2.out.kp (kp_set 2 (by unfold New; omega) _), rd_none _ _⟩, HB2.out.set_ (k := b) (.inl rfl) 2 _⟩
  | false =>
   obtain ⟨g', rfl, hR⟩ := HRD.out.2 (by first | rfl | trivial)
   have HC := fun (w' : World) (hp : Pr b L tb tc bad k d w') => (HALL.out g' (by omega)).elem hp hk hd (by omega)
   have hres := (PB.all (bad := bad) HL.out g').elem d k hk
   obtain ⟨E, hE⟩ : ∃ E, elemP L bad g' d k = E := ⟨_, rfl⟩
   rw [hE] at HC hR hres
   replace HC := Lib.hid HC
   have HRR := Lib.hid hR
   have HP2 := Lib.hid hP2
   have HPB2 := Lib.hid hp2
   have HK2 := Lib.hid hK2
   have HO2 := Lib.hid hO2
   have HB2 := Lib.hid hB2
   clear hR HRD hE HOw HKk HPBk HPk HBt hP2 hp2 hK2 hO2 hB2 hb2
   go_wp2_with fail
   have hS : ∀ v, (Blk PPT k1 #[.pointer (some ⟨b, 0, none⟩)] v ∧ Blk NDT k2 #[.int .i64 4, .string ⟨#[]⟩, .int .i64 0, .slice ka out.length kq, .slice none 0 0, .int .i64 t.at_] v) → (v.cell? ⟨k1, 0, none⟩ = some (.pointer (some ⟨b, 0, none⟩)) ∧ v.cell? ⟨k2, 3, none⟩ = some (.slice ka out.length kq)) := fun v hv => ⟨hv.1.c 0 _ rfl, hv.2.c 3 _ rfl⟩
   refine region_pk (fun c a a' w h hq => (show a.defers = [] ∧ _ from ⟨h ▸ (show a'.defers = [] ∧ _ from hq).1, (show a'.defers = [] ∧ _ from hq).2⟩)) (fun HPQ => ?_)
   refine Hf.start (fun v => (v.cell? ⟨k1, 0, none⟩ = some (.pointer (some ⟨b, 0, none⟩)) ∧ v.cell? ⟨k2, 3, none⟩ = some (.slice ka out.length kq))) 6 (by kernel_rfl) (hS _ ⟨HPB2.out.drewN 1, HK2.out.drewN 1⟩) (fun hH0 => ?_)
   refine Hf.take 0 1 (oi := ?_) (v := ?_) ?_ (by kernel_rfl) (fun c a w h => HPQ c _ _ w (put_defers a _ _) h) hH0 ?_ ?_ ?_
   rotate_left 2
   · simp only [Hd.ga, Hd.gz]
     exact rfl
   · rfl
   · intro w hSw
     (try dsimp only at hSw)
     go_simp
     try with_reducible rfl
   try simp only [Act.put, Hd.sa, Hd.sz, Hd.ss]
   refine Hf.take 1 6 (oi := ?_) (v := ?_) ?_ (by kernel_rfl) (fun c a w h => HPQ c _ _ w (put_defers a _ _) h) hH0 ?_ ?_ ?_
   rotate_left 2
   · simp only [Hd.ga, Hd.gs, Hd.gz]
     exact rfl
   · rfl
   · intro w hSw
     (try dsimp only at hSw)
     go_simp
     try with_reducible rfl
   try simp only [Act.put, Hd.sa, Hd.sz, Hd.ss]
   refine Hf.take 2 3 (oi := ?_) (v := ?_) ?_ (by kernel_rfl) (fun c a w h => HPQ c _ _ w (put_defers a _ _) h) hH0 ?_ ?_ ?_
   rotate_left 2
   · simp only [Hd.ga, Hd.gs, Hd.gz]
     exact rfl
   · rfl
   · intro w hSw
     (try dsimp only at hSw)
     go_simp
     try with_reducible rfl
   try simp only [Act.put, Hd.sa, Hd.sz, Hd.ss]
   refine Hf.take 4 6 (oi := ?_) (v := ?_) ?_ (by kernel_rfl) (fun c a w h => HPQ c _ _ w (put_defers a _ _) h) hH0 ?_ ?_ ?_
   rotate_left 2
   · simp only [Hd.ga, Hd.gs, Hd.gz]
     exact rfl
   · rfl
   · intro w hSw
     (try dsimp only at hSw)
     go_simp
     try with_reducible rfl
   try simp only [Act.put, Hd.sa, Hd.sz, Hd.ss]
   have hPd := HP2.out.drew
   have hpd : Blk PPT k1 #[.pointer (some ⟨b, 0, none⟩)] w2.drew := HPB2.out.drewN 1
   have hKd : Blk NDT k2 #[.int .i64 4, .string ⟨#[]⟩, .int .i64 0, .slice ka out.length kq, .slice none 0 0, .int .i64 t.at_] w2.drew := HK2.out.drewN 1
   have hOd : OwnT NDT w.heap.size (New w) w2.drew (.slice ka out.length kq) out := HO2.out.kp (Nat.le_refl _) (fun _ _ _ => rfl)
   have hBd := But.drew HB2.out
   have hsd : w2.drew.heap.size = w2.heap.size := rfl
   obtain ⟨Wd, hWd⟩ : ∃ W, w2.drew = W := ⟨_, rfl⟩
   rw [hWd] at hPd hpd hKd hOd hBd hsd hH0 ⊢
   have HPd := Lib.hid hPd
   have Hpd := Lib.hid hpd
   have HKd := Lib.hid hKd
   have HOd := Lib.hid hOd
   have HBd := Lib.hid hBd
   clear hPd hpd hKd hOd hBd hWd
   refine Hf.two 3 5 (o := ?_) (p := ?_) ?_ ?_ (by kernel_rfl) (fun K hK => ?_) (fun K hK => ?_)
   rotate_left 2
   · simp only [Hd.ga, Hd.gs, Hd.gz]
     exact rfl
   · simp only [Hd.ga, Hd.gs, Hd.gz]
     exact rfl
   · go_simp
     refine (HC.out Wd HPd.out).mono ?_; intro e w3 ht9
     cases E with
     | error y =>
      obtain ⟨rfl, hm⟩ := ht9
      have hR := HRR.out
      simp only [bind, Except.bind] at hR
      subst hR
      have hR := HR.out
      simp only [bind, Except.bind] at hR
      subst hR
      go_wp2_with fail
      exact ⟨rfl, rfl, (HBd.out).trans (But.of_mv hm (.inl rfl))⟩
     | ok y =>
      obtain ⟨m, k2'⟩ := y
      have hR := HRR.out
      simp only [bind, Except.bind] at hR
      replace HRR := Lib.hid hR
      clear hR
      obtain ⟨v, hv, rfl, hP3, hm3⟩ := ht9
      obtain ⟨la, lc, ma, mc, rfl, hTm, hNm⟩ := hv.form
      obtain ⟨q1, q2, -, -⟩ := hres
      simp only at q1 q2
      have hs3 := hm3.size
      have hK3 : Blk NDT k2 #[.int .i64 4, .string ⟨#[]⟩, .int .i64 0, .slice ka out.length kq, .slice none 0 0, .int .i64 t.at_] w3 := (hm3.block _ (by omega) hkb).trans HKd.out
      have hp3 : Blk PPT k1 #[.pointer (some ⟨b, 0, none⟩)] w3 := (hm3.block _ (by omega) hkb1).trans Hpd.out
      have hO3 := ownT_mv HOd.out hm3 hbl (by unfold New; omega)
      have hB3 := (HBd.out).trans (But.of_mv hm3 (.inl rfl))
      have hob : ∀ j, (Value.slice ka out.length kq).ownBlock = some j → w.heap.size ≤ j ∧ j < Wd.heap.size := fun j hj => ownT_lt HOd.out j hj
      have hTm1 := hTm.mono (S' := (fun j => New w j ∧ (Value.slice ka out.length kq).ownBlock ≠ some j)) (fun j hj hl => by unfold New at *; exact ⟨by omega, fun h => by have := hob j h; omega⟩)
      have hNm1 := hNm.mono (S' := (fun j => New w j ∧ (Value.slice ka out.length kq).ownBlock ≠ some j)) (fun j hj hl => by unfold New at *; exact ⟨by omega, fun h => by have := hob j h; omega⟩)
      have HP3 := Lib.hid hP3
      have HK3 := Lib.hid hK3
      have Hp3 := Lib.hid hp3
      have HO3 := Lib.hid hO3
      have HB3 := Lib.hid hB3
      have HT3 := Lib.hid hTm1
      have HN3 := Lib.hid hNm1
      clear hv hP3 hm3 hTm hNm hK3 hp3 hO3 hB3 hTm1 hNm1 hob HPd HKd Hpd HOd HBd
      unfold ndA
      go_simp
      refine hK.out _ _ (hS _ ⟨Hp3.out, HK3.out⟩) (fun hH1 => ?_)
      clear hK K
      try simp only [Act.put, Hd.sa, Hd.sz, Hd.ss]
      have hP3 := HP3.out
      have hK3 := HK3.out
      have hp3 := Hp3.out
      have hO3 := HO3.out
      have hT3 := HT3.out
      have hN3 := HN3.out
      have hBc := HB3.out.alloc (.cells #[.int .i64 0, .string ⟨#[]⟩, .int .i64 0, .slice none 0 0, .slice none 0 0, .int .i64 0] NDT)
      have hbbF := alloc_bel w3 (.cells #[.int .i64 0, .string ⟨#[]⟩, .int .i64 0, .slice none 0 0, .slice none 0 0, .int .i64 0] NDT)
      have hMkF := Blk.made (T := NDT) (cs := #[.int .i64 0, .string ⟨#[]⟩, .int .i64 0, .slice none 0 0, .slice none 0 0, .int .i64 0]) w3
      have hszF : (w3.alloc (.cells #[.int .i64 0, .string ⟨#[]⟩, .int .i64 0, .slice none 0 0, .slice none 0 0, .int .i64 0] NDT)).heap.size = w3.heap.size + 1 := by simp
      have hPc := hP3.bel hbbF
      have hKc := hK3.alloc (.cells #[.int .i64 0, .string ⟨#[]⟩, .int .i64 0, .slice none 0 0, .slice none 0 0, .int .i64 0] NDT)
      have hpc := hp3.alloc (.cells #[.int .i64 0, .string ⟨#[]⟩, .int .i64 0, .slice none 0 0, .slice none 0 0, .int .i64 0] NDT)
      have hOc := hO3.bel hbbF
      have hTc := hT3.bel hbbF
      have hNc := hN3.below hbbF
      obtain ⟨W4, halF⟩ : ∃ W, w3.alloc (.cells #[.int .i64 0, .string ⟨#[]⟩, .int .i64 0, .slice none 0 0, .slice none 0 0, .int .i64 0] NDT) = W := ⟨_, rfl⟩
      rw [halF] at hMkF hszF hPc hKc hpc hOc hTc hNc
      clear hbbF
      rw [halF] at hBc
      obtain ⟨gz, hgz⟩ : ∃ g, w3.heap.size = g := ⟨_, rfl⟩
      rw [hgz] at hMkF hszF
      have hGc := hMkF
      have HKc4 := Lib.hid hKc
      have Hpc4 := Lib.hid hpc
      clear hP3 hK3 hp3 hO3 hT3 hN3 HP3 HK3 Hp3 HO3 HB3 HT3 HN3 hMkF
      refine Hf.one 5 5 (o := ?_) ?_ (by kernel_rfl) (fun K hK => ?_)
      rotate_left 1
      · simp only [Hd.ga, Hd.gs, Hd.gz]
        exact rfl
      go_simp
      refine hK.out _ _ (hS _ ⟨Hpc4.out, HKc4.out⟩) (fun hH2 => ?_)
      clear hK K
      try simp only [Act.put, Hd.sa, Hd.sz, Hd.ss]
      obtain ⟨vl, hvl, hrow, hsub⟩ := hOc
      have hvll : vl.length = out.length := by have := congrArg List.length hvl; rwa [List.length_map] at this
      have hnews := World.news_of_block hGc
      rw [hvll] at hrow
      have HPc := Lib.hid hPc
      have HKc := Lib.hid hKc
      have Hpc := Lib.hid hpc
      have HBc := Lib.hid hBc
      have HTc := Lib.hid hTc
      have HNc := Lib.hid hNc
      have HROW := Lib.hid hrow
      have HSUB := Lib.hid hsub
      have HVL := Lib.hid hvl
      have HVLL := Lib.hid hvll
      have HNEWS := Lib.hid hnews
      have HOB := Lib.hid (fun j hj => hrow.lt j hj)
      clear hPc hKc hpc hBc hTc hNc hrow hsub hvl hvll hnews hGc
      refine Hf.oneM 6 6 (o := ?_) ?_ (by kernel_rfl) (by kernel_rfl) (fun K hK => ?_)
      rotate_left 1
      · simp only [Hd.ga, Hd.gs, Hd.gz]
        exact rfl
      refine step_append_lies _ rfl (.tmp 10) (.tmp 14) 26 rfl w.heap.size NDT i0 (.agg #[.int .i64 0, .string ⟨#[]⟩, .int .i64 0, .slice none 0 0, .slice none 0 0, .int .i64 0]) 6 88 tsl hi0 hz0 hz1 hz2 rfl (by decide) _ out.length (flatN vl) (by simp [Act.eval]) HROW.out ⟨gz, 0, none⟩ 1 1 [.int .i64 0, .string ⟨#[]⟩, .int .i64 0, .slice none 0 0, .slice none 0 0, .int .i64 0] (by simp [Act.eval]) rfl HNEWS.out (fun u hu => by simp at hu; rcases hu with rfl | rfl | rfl | rfl | rfl | rfl <;> rfl) (by decide) (by unfold maxLen; omega) (by omega) (by omega) _ rfl ?_
      intro gb cap w6 hown6 hgrow6 hat6 hlt6
      have hs6 := hgrow6.size
      have hob : ∀ j, (Value.slice ka out.length kq).ownBlock = some j → w.heap.size ≤ j := fun j hj => (HOB.out j hj).1
      have hgb : w.heap.size ≤ gb := by
       rcases hat6 with h | h
       · exact hob gb h
       · omega
      have hfl : (flatN vl).length = out.length * 6 := by rw [flatN_len, HVLL.out]
      have ce : ∀ j, j < 6 → w6.cell? ⟨gb, out.length * 6 + j, none⟩ = (flatN vl ++ [.int .i64 0, .string ⟨#[]⟩, .int .i64 0, .slice none 0 0, .slice none 0 0, .int .i64 0])[out.length * 6 + j]? := fun j hj => hown6.cellAt _ (by omega)
      have cf : ∀ j, w6.frozen? ⟨gb, j, none⟩ = false := fun j => hown6.frozenAt j
      have e0 : w6.cell? ⟨gb, out.length * 6, none⟩ = some (.int .i64 0) := by have := ce 0 (by omega); rw [List.getElem?_append_right (by omega), hfl] at this; simpa using this
      have e1 : w6.cell? ⟨gb, out.length * 6 + 1, none⟩ = some (.string ⟨#[]⟩) := by have := ce 1 (by omega); rw [List.getElem?_append_right (by omega), hfl, show out.length * 6 + 1 - out.length * 6 = 1 by omega] at this; simpa using this
      have e2 : w6.cell? ⟨gb, out.length * 6 + 2, none⟩ = some (.int .i64 0) := by have := ce 2 (by omega); rw [List.getElem?_append_right (by omega), hfl, show out.length * 6 + 2 - out.length * 6 = 2 by omega] at this; simpa using this
      have e3 : w6.cell? ⟨gb, out.length * 6 + 3, none⟩ = some (.slice none 0 0) := by have := ce 3 (by omega); rw [List.getElem?_append_right (by omega), hfl, show out.length * 6 + 3 - out.length * 6 = 3 by omega] at this; simpa using this
      have e4 : w6.cell? ⟨gb, out.length * 6 + 4, none⟩ = some (.slice none 0 0) := by have := ce 4 (by omega); rw [List.getElem?_append_right (by omega), hfl, show out.length * 6 + 4 - out.length * 6 = 4 by omega] at this; simpa using this
      have e5 : w6.cell? ⟨gb, out.length * 6 + 5, none⟩ = some (.int .i64 0) := by have := ce 5 (by omega); rw [List.getElem?_append_right (by omega), hfl, show out.length * 6 + 5 - out.length * 6 = 5 by omega] at this; simpa using this
      obtain ⟨W7, hW7⟩ : ∃ W, ((((((w6.setCell ⟨gb, out.length * 6, none⟩ (.int .i64 m.kind)).setCell ⟨gb, out.length * 6 + 1, none⟩ (.string ⟨m.name.toArray⟩)).setCell ⟨gb, out.length * 6 + 2, none⟩ (.int .i64 m.num)).setCell ⟨gb, out.length * 6 + 3, none⟩ (.slice la m.kids.length lc)).setCell ⟨gb, out.length * 6 + 4, none⟩ (.slice ma m.names.length mc)).setCell ⟨gb, out.length * 6 + 5, none⟩ (.int .i64 m.at_)) = W := ⟨_, rfl⟩
      have hown7 := own_last (v0 := .int .i64 m.kind) (v1 := .string ⟨m.name.toArray⟩) (v2 := .int .i64 m.num) (v3 := .slice la m.kids.length lc) (v4 := .slice ma m.names.length mc) (v5 := .int .i64 m.at_) hfl hown6
      have hgrow7 := grown_set6 (g := gb) (i0 := out.length * 6) (i1 := out.length * 6 + 1) (i2 := out.length * 6 + 2) (i3 := out.length * 6 + 3) (i4 := out.length * 6 + 4) (i5 := out.length * 6 + 5) (v0 := .int .i64 m.kind) (v1 := .string ⟨m.name.toArray⟩) (v2 := .int .i64 m.num) (v3 := .slice la m.kids.length lc) (v4 := .slice ma m.names.length mc) (v5 := .int .i64 m.at_) hgrow6 hat6
      rw [hW7] at hown7 hgrow7
      have hs7 := hgrow7.size
      have hsn := own_snoc (n := out.length) (S := New w) (x := m) (kv := .slice la m.kids.length lc) (nv := .slice ma m.names.length mc) HVLL.out.symm hgrow7.size HSUB.out HTc.out HNc.out hown7 hgrow7 hat6
      rw [HVL.out] at hsn
      have K6 : Blk NDT k2 #[.int .i64 4, .string ⟨#[]⟩, .int .i64 0, .slice ka out.length kq, .slice none 0 0, .int .i64 t.at_] w6 := (hgrow6.block _ (by omega) (fun h => by have := hob _ h.symm; omega)).trans HKc.out
      have p6 : Blk PPT k1 #[.pointer (some ⟨b, 0, none⟩)] w6 := (hgrow6.block _ (by omega) (fun h => by have := hob _ h.symm; omega)).trans Hpc.out
      have K7 : Blk NDT k2 #[.int .i64 4, .string ⟨#[]⟩, .int .i64 0, .slice ka out.length kq, .slice none 0 0, .int .i64 t.at_] W7 := (hgrow7.block _ (by omega) (fun h => by have := hob _ h.symm; omega)).trans HKc.out
      have p7 : Blk PPT k1 #[.pointer (some ⟨b, 0, none⟩)] W7 := (hgrow7.block _ (by omega) (fun h => by have := hob _ h.symm; omega)).trans Hpc.out
      have hP7 := HPc.out.grown hgrow7 (fun h => by have := hob _ h; omega) (fun h => by have := hob _ h; omega)
      have hB7 := But.grown HBc.out hgrow7 hob
      have hSN := Lib.hid hsn
      have HK6 := Lib.hid K6
      have Hp6 := Lib.hid p6
      have HK7 := Lib.hid K7
      have Hp7 := Lib.hid p7
      have HP7 := Lib.hid hP7
      have HB7 := Lib.hid hB7
      clear hown6 hgrow6 hat6 hown7 hgrow7 hsn K6 p6 K7 p7 hP7 hB7 ce hob HROW HSUB HTc HNc HNEWS hfl
      refine hK.out _ _ ?_
      clear hK K
      try simp only [Act.put, Hd.sa, Hd.sz, Hd.ss]
      have hix : (out.length : Int) < (out.length : Int) + 1 := by omega
      refine Hf.takeV 7 8 (oi := ?_) (v := ?_) ?_ (by kernel_rfl) (fun c a w h => HPQ c _ _ w (put_defers a _ _) h) (by kernel_rfl) ?_ ?_ ?_
      rotate_left 2
      · simp only [Hd.ga, Hd.gs, Hd.gz]
        exact rfl
      · rfl
      · intro w
        go_simp
        try with_reducible rfl
      try simp only [Act.put, Hd.sa, Hd.sz, Hd.ss]
      refine Hf.takeV 9 10 (oi := ?_) (v := ?_) ?_ (by kernel_rfl) (fun c a w h => HPQ c _ _ w (put_defers a _ _) h) (by kernel_rfl) ?_ ?_ ?_
      rotate_left 2
      · simp only [Hd.ga, Hd.gs, Hd.gz]
        exact rfl
      · rfl
      · intro w
        go_simp
        try with_reducible rfl
      try simp only [Act.put, Hd.sa, Hd.sz, Hd.ss]
      have hlo : (out ++ [m]).length = out.length + 1 := by simp
      have hgk : gb ≠ k2 := by omega
      have hPf := HP7.out.far (p := ⟨k2, 3, none⟩) (show b ≠ k2 from Ne.symm hkb) (show tb ≠ k2 from Ne.symm hkt) (.slice (some ⟨gb, 0, none⟩) (out.length + 1) cap)
      have k3 := HK6.out.c 3 _ rfl
      have kf := HK6.out.fz
      have k73 := HK7.out.c 3 _ rfl
      have kf7 := HK7.out.fz
      refine Hf.twoM 8 10 (o := ?_) (p := ?_) ?_ ?_ (by kernel_rfl) (by kernel_rfl) (by kernel_rfl) (fun K hK => ?_) (fun K hK => ?_)
      rotate_left 2
      · simp only [Hd.ga, Hd.gs, Hd.gz]
        exact rfl
      · simp only [Hd.ga, Hd.gs, Hd.gz]
        exact rfl
      · go_simp
        refine hK.out _ _ ?_
        clear hK K
        try simp only [Act.put, Hd.sa, Hd.sz, Hd.ss]
        clear e0 e1 e2 e3 e4 e5 cf k3 kf
        refine Hf.last 10 (o := ?_) ?_ (by kernel_rfl) (by kernel_rfl) (by kernel_rfl) (fun K hK => ?_)
        rotate_left 1
        · simp only [Hd.ga, Hd.gs, Hd.gz]
          exact rfl
        go_simp
        refine hK.out _ _ ?_
        clear hK K
        try simp only [Act.put, Hd.sa, Hd.sz, Hd.ss]
        go_wp2_with fail
        refine ⟨⟨k2', g', out ++ [m], some ⟨gb, 0, none⟩, cap, q2, by rw [hlo]; omega, by omega, by omega, HRR, Lib.hid (by rw [hlo]; exact ownT_set hSN.out (fun h => by have h : some gb = some k2 := h; cases h; omega) (by unfold New; omega) _), Lib.hid (by rw [hlo]; exact HK7.out.set_ 3 _ _ rfl), Lib.hid (Hp7.out.far hk12 _), Lib.hid hPf, Lib.hid (HB7.out.set_ (k := k2) (.inr rfl) 3 _)⟩, ?_⟩
        rw [hPf.at_]; omega
      · go_simp
        refine hK.out _ _ ?_
        clear hK K
        try simp only [Act.put, Hd.sa, Hd.sz, Hd.ss]
        have hgk3 : ¬ k2 = gb := by omega
        obtain ⟨W8, hW8⟩ : ∃ W, w6.setCell ⟨k2, 3, none⟩ (.slice (some ⟨gb, 0, none⟩) (out.length + 1) cap) = W := ⟨_, rfl⟩
        rw [hW8]
        have hnk : ∀ j, W8.cell? ⟨gb, j, none⟩ = w6.cell? ⟨gb, j, none⟩ := fun j => by rw [← hW8]; exact World.cell?_of_block (Below.heap_setCell w6 ⟨k2, 3, none⟩ _ gb hgk)
        have hfk : ∀ j, W8.frozen? ⟨gb, j, none⟩ = w6.frozen? ⟨gb, j, none⟩ := fun j => by rw [← hW8]; exact World.frozen?_of_block (Below.heap_setCell w6 ⟨k2, 3, none⟩ _ gb hgk)
        rw [← hnk] at e0 e1 e2 e3 e4 e5
        have cf8 : ∀ j, W8.frozen? ⟨gb, j, none⟩ = false := fun j => (hfk j).trans (cf j)
        have hfin : (((((W8.setCell ⟨gb, out.length * 6, none⟩ (.int .i64 m.kind)).setCell ⟨gb, out.length * 6 + 1, none⟩ (.string ⟨m.name.toArray⟩)).setCell ⟨gb, out.length * 6 + 2, none⟩ (.int .i64 m.num)).setCell ⟨gb, out.length * 6 + 3, none⟩ (.slice la m.kids.length lc)).setCell ⟨gb, out.length * 6 + 4, none⟩ (.slice ma m.names.length mc)).setCell ⟨gb, out.length * 6 + 5, none⟩ (.int .i64 m.at_) = W7.setCell ⟨k2, 3, none⟩ (.slice (some ⟨gb, 0, none⟩) (out.length + 1) cap) := by
         rw [← hW8, ← hW7]
         rw [setCell_comm w6 (Ne.symm hgk), setCell_comm _ (Ne.symm hgk), setCell_comm _ (Ne.symm hgk), setCell_comm _ (Ne.symm hgk), setCell_comm _ (Ne.symm hgk), setCell_comm _ (Ne.symm hgk)]
        clear hW7 hW8 k3 kf k73 kf7 hnk hfk cf
        refine Hf.last 8 (o := ?_) ?_ (by kernel_rfl) (by kernel_rfl) (by kernel_rfl) (fun K hK => ?_)
        rotate_left 1
        · simp only [Hd.ga, Hd.gs, Hd.gz]
          exact rfl
        go_simp
        refine hK.out _ _ ?_
        clear hK K
        try simp only [Act.put, Hd.sa, Hd.sz, Hd.ss]
        go_wp2_with fail
        refine ⟨⟨k2', g', out ++ [m], some ⟨gb, 0, none⟩, cap, q2, by rw [hlo]; omega, by omega, by omega, HRR, Lib.hid (by rw [hlo]; exact ownT_set hSN.out (fun h => by have h : some gb = some k2 := h; cases h; omega) (by unfold New; omega) _), Lib.hid (by rw [hlo]; exact HK7.out.set_ 3 _ _ rfl), Lib.hid (Hp7.out.far hk12 _), Lib.hid hPf, Lib.hid (HB7.out.set_ (k := k2) (.inr rfl) 3 _)⟩, ?_⟩
        rw [hPf.at_]; omega
   · go_simp
     have hPd := HPd.out
     have hKd := HKd.out
     have hpd := Hpd.out
     have hOd := HOd.out
     have hB4 := HBd.out.alloc (.cells #[.int .i64 0, .string ⟨#[]⟩, .int .i64 0, .slice none 0 0, .slice none 0 0, .int .i64 0] NDT)
     have hbbF := alloc_bel Wd (.cells #[.int .i64 0, .string ⟨#[]⟩, .int .i64 0, .slice none 0 0, .slice none 0 0, .int .i64 0] NDT)
     have hMkF := Blk.made (T := NDT) (cs := #[.int .i64 0, .string ⟨#[]⟩, .int .i64 0, .slice none 0 0, .slice none 0 0, .int .i64 0]) Wd
     have hszF : (Wd.alloc (.cells #[.int .i64 0, .string ⟨#[]⟩, .int .i64 0, .slice none 0 0, .slice none 0 0, .int .i64 0] NDT)).heap.size = Wd.heap.size + 1 := by simp
     have hP4 := hPd.bel hbbF
     have hK4 := hKd.alloc (.cells #[.int .i64 0, .string ⟨#[]⟩, .int .i64 0, .slice none 0 0, .slice none 0 0, .int .i64 0] NDT)
     have hp4 := hpd.alloc (.cells #[.int .i64 0, .string ⟨#[]⟩, .int .i64 0, .slice none 0 0, .slice none 0 0, .int .i64 0] NDT)
     have hO4 := hOd.bel hbbF
     obtain ⟨W4, halF⟩ : ∃ W, Wd.alloc (.cells #[.int .i64 0, .string ⟨#[]⟩, .int .i64 0, .slice none 0 0, .slice none 0 0, .int .i64 0] NDT) = W := ⟨_, rfl⟩
     rw [halF] at hMkF hszF hP4 hK4 hp4 hO4
     clear hbbF
     rw [halF] at hB4
     obtain ⟨gz, hgz⟩ : ∃ g, Wd.heap.size = g := ⟨_, rfl⟩
     rw [hgz] at hMkF hszF
     have HP4 := Lib.hid hP4
     have HK4 := Lib.hid hK4
     have Hp4 := Lib.hid hp4
     have HO4 := Lib.hid hO4
     have HB4 := Lib.hid hB4
     have HG4 := Lib.hid hMkF
     clear hPd hKd hpd hOd hP4 hK4 hp4 hO4 hB4 hMkF HPd HKd Hpd HOd HBd
     rw [halF, ← hsd, hgz]
     refine hK.out _ _ (hS _ ⟨Hp4.out, HK4.out⟩) (fun hH1 => ?_)
     clear hK K
     try simp only [Act.put, Hd.sa, Hd.sz, Hd.ss]
     refine Hf.one 3 3 (o := ?_) ?_ (by kernel_rfl) (fun K hK => ?_)
     rotate_left 1
     · simp only [Hd.ga, Hd.gs, Hd.gz]
       exact rfl
     go_simp
     refine (HC.out W4 HP4.out).mono ?_; intro e w3 ht9
     cases E with
     | error y =>
      obtain ⟨rfl, hm⟩ := ht9
      have hR := HRR.out
      simp only [bind, Except.bind] at hR
      subst hR
      have hR := HR.out
      simp only [bind, Except.bind] at hR
      subst hR
      go_wp2_with fail
      exact ⟨rfl, rfl, (HB4.out).trans (But.of_mv hm (.inl rfl))⟩
     | ok y =>
      obtain ⟨m, k2'⟩ := y
      have hR := HRR.out
      simp only [bind, Except.bind] at hR
      replace HRR := Lib.hid hR
      clear hR
      obtain ⟨v, hv, rfl, hP3, hm3⟩ := ht9
      obtain ⟨la, lc, ma, mc, rfl, hTm, hNm⟩ := hv.form
      obtain ⟨q1, q2, -, -⟩ := hres
      simp only at q1 q2
      have hs3 := hm3.size
      have hK3 : Blk NDT k2 #[.int .i64 4, .string ⟨#[]⟩, .int .i64 0, .slice ka out.length kq, .slice none 0 0, .int .i64 t.at_] w3 := (hm3.block _ (by omega) hkb).trans HK4.out
      have hp3 : Blk PPT k1 #[.pointer (some ⟨b, 0, none⟩)] w3 := (hm3.block _ (by omega) hkb1).trans Hp4.out
      have hO3 := ownT_mv HO4.out hm3 hbl (by unfold New; omega)
      have hB3 := (HB4.out).trans (But.of_mv hm3 (.inl rfl))
      have hob : ∀ j, (Value.slice ka out.length kq).ownBlock = some j → w.heap.size ≤ j ∧ j < W4.heap.size := fun j hj => ownT_lt HO4.out j hj
      have hTm1 := hTm.mono (S' := (fun j => New w j ∧ (Value.slice ka out.length kq).ownBlock ≠ some j)) (fun j hj hl => by unfold New at *; exact ⟨by omega, fun h => by have := hob j h; omega⟩)
      have hNm1 := hNm.mono (S' := (fun j => New w j ∧ (Value.slice ka out.length kq).ownBlock ≠ some j)) (fun j hj hl => by unfold New at *; exact ⟨by omega, fun h => by have := hob j h; omega⟩)
      have hG3 : Blk NDT gz #[.int .i64 0, .string ⟨#[]⟩, .int .i64 0, .slice none 0 0, .slice none 0 0, .int .i64 0] w3 := (hm3.block _ (by omega) (by omega)).trans HG4.out
      have hPc := hP3
      have hKc := hK3
      have hpc := hp3
      have hOc := hO3
      have hBc := hB3
      have hTc := hTm1
      have hNc := hNm1
      have hGc := hG3
      have HK3 := Lib.hid hK3
      have Hp3 := Lib.hid hp3
      clear hv hP3 hm3 hTm hNm hK3 hp3 hO3 hB3 hTm1 hNm1 hob hG3 HP4 HK4 Hp4 HO4 HB4 HG4
      unfold ndA
      go_simp
      refine hK.out _ _ (hS _ ⟨Hp3.out, HK3.out⟩) (fun hH2 => ?_)
      clear hK K
      try simp only [Act.put, Hd.sa, Hd.sz, Hd.ss]
      obtain ⟨vl, hvl, hrow, hsub⟩ := hOc
      have hvll : vl.length = out.length := by have := congrArg List.length hvl; rwa [List.length_map] at this
      have hnews := World.news_of_block hGc
      rw [hvll] at hrow
      have HPc := Lib.hid hPc
      have HKc := Lib.hid hKc
      have Hpc := Lib.hid hpc
      have HBc := Lib.hid hBc
      have HTc := Lib.hid hTc
      have HNc := Lib.hid hNc
      have HROW := Lib.hid hrow
      have HSUB := Lib.hid hsub
      have HVL := Lib.hid hvl
      have HVLL := Lib.hid hvll
      have HNEWS := Lib.hid hnews
      have HOB := Lib.hid (fun j hj => hrow.lt j hj)
      clear hPc hKc hpc hBc hTc hNc hrow hsub hvl hvll hnews hGc
      refine Hf.oneM 6 6 (o := ?_) ?_ (by kernel_rfl) (by kernel_rfl) (fun K hK => ?_)
      rotate_left 1
      · simp only [Hd.ga, Hd.gs, Hd.gz]
        exact rfl
      refine step_append_lies _ rfl (.tmp 10) (.tmp 14) 26 rfl w.heap.size NDT i0 (.agg #[.int .i64 0, .string ⟨#[]⟩, .int .i64 0, .slice none 0 0, .slice none 0 0, .int .i64 0]) 6 88 tsl hi0 hz0 hz1 hz2 rfl (by decide) _ out.length (flatN vl) (by simp [Act.eval]) HROW.out ⟨gz, 0, none⟩ 1 1 [.int .i64 0, .string ⟨#[]⟩, .int .i64 0, .slice none 0 0, .slice none 0 0, .int .i64 0] (by simp [Act.eval]) rfl HNEWS.out (fun u hu => by simp at hu; rcases hu with rfl | rfl | rfl | rfl | rfl | rfl <;> rfl) (by decide) (by unfold maxLen; omega) (by omega) (by omega) _ rfl ?_
      intro gb cap w6 hown6 hgrow6 hat6 hlt6
      have hs6 := hgrow6.size
      have hob : ∀ j, (Value.slice ka out.length kq).ownBlock = some j → w.heap.size ≤ j := fun j hj => (HOB.out j hj).1
      have hgb : w.heap.size ≤ gb := by
       rcases hat6 with h | h
       · exact hob gb h
       · omega
      have hfl : (flatN vl).length = out.length * 6 := by rw [flatN_len, HVLL.out]
      have ce : ∀ j, j < 6 → w6.cell? ⟨gb, out.length * 6 + j, none⟩ = (flatN vl ++ [.int .i64 0, .string ⟨#[]⟩, .int .i64 0, .slice none 0 0, .slice none 0 0, .int .i64 0])[out.length * 6 + j]? := fun j hj => hown6.cellAt _ (by omega)
      have cf : ∀ j, w6.frozen? ⟨gb, j, none⟩ = false := fun j => hown6.frozenAt j
      have e0 : w6.cell? ⟨gb, out.length * 6, none⟩ = some (.int .i64 0) := by have := ce 0 (by omega); rw [List.getElem?_append_right (by omega), hfl] at this; simpa using this
      have e1 : w6.cell? ⟨gb, out.length * 6 + 1, none⟩ = some (.string ⟨#[]⟩) := by have := ce 1 (by omega); rw [List.getElem?_append_right (by omega), hfl, show out.length * 6 + 1 - out.length * 6 = 1 by omega] at this; simpa using this
      have e2 : w6.cell? ⟨gb, out.length * 6 + 2, none⟩ = some (.int .i64 0) := by have := ce 2 (by omega); rw [List.getElem?_append_right (by omega), hfl, show out.length * 6 + 2 - out.length * 6 = 2 by omega] at this; simpa using this
      have e3 : w6.cell? ⟨gb, out.length * 6 + 3, none⟩ = some (.slice none 0 0) := by have := ce 3 (by omega); rw [List.getElem?_append_right (by omega), hfl, show out.length * 6 + 3 - out.length * 6 = 3 by omega] at this; simpa using this
      have e4 : w6.cell? ⟨gb, out.length * 6 + 4, none⟩ = some (.slice none 0 0) := by have := ce 4 (by omega); rw [List.getElem?_append_right (by omega), hfl, show out.length * 6 + 4 - out.length * 6 = 4 by omega] at this; simpa using this
      have e5 : w6.cell? ⟨gb, out.length * 6 + 5, none⟩ = some (.int .i64 0) := by have := ce 5 (by omega); rw [List.getElem?_append_right (by omega), hfl, show out.length * 6 + 5 - out.length * 6 = 5 by omega] at this; simpa using this
      obtain ⟨W7, hW7⟩ : ∃ W, ((((((w6.setCell ⟨gb, out.length * 6, none⟩ (.int .i64 m.kind)).setCell ⟨gb, out.length * 6 + 1, none⟩ (.string ⟨m.name.toArray⟩)).setCell ⟨gb, out.length * 6 + 2, none⟩ (.int .i64 m.num)).setCell ⟨gb, out.length * 6 + 3, none⟩ (.slice la m.kids.length lc)).setCell ⟨gb, out.length * 6 + 4, none⟩ (.slice ma m.names.length mc)).setCell ⟨gb, out.length * 6 + 5, none⟩ (.int .i64 m.at_)) = W := ⟨_, rfl⟩
      have hown7 := own_last (v0 := .int .i64 m.kind) (v1 := .string ⟨m.name.toArray⟩) (v2 := .int .i64 m.num) (v3 := .slice la m.kids.length lc) (v4 := .slice ma m.names.length mc) (v5 := .int .i64 m.at_) hfl hown6
      have hgrow7 := grown_set6 (g := gb) (i0 := out.length * 6) (i1 := out.length * 6 + 1) (i2 := out.length * 6 + 2) (i3 := out.length * 6 + 3) (i4 := out.length * 6 + 4) (i5 := out.length * 6 + 5) (v0 := .int .i64 m.kind) (v1 := .string ⟨m.name.toArray⟩) (v2 := .int .i64 m.num) (v3 := .slice la m.kids.length lc) (v4 := .slice ma m.names.length mc) (v5 := .int .i64 m.at_) hgrow6 hat6
      rw [hW7] at hown7 hgrow7
      have hs7 := hgrow7.size
      have hsn := own_snoc (n := out.length) (S := New w) (x := m) (kv := .slice la m.kids.length lc) (nv := .slice ma m.names.length mc) HVLL.out.symm hgrow7.size HSUB.out HTc.out HNc.out hown7 hgrow7 hat6
      rw [HVL.out] at hsn
      have K6 : Blk NDT k2 #[.int .i64 4, .string ⟨#[]⟩, .int .i64 0, .slice ka out.length kq, .slice none 0 0, .int .i64 t.at_] w6 := (hgrow6.block _ (by omega) (fun h => by have := hob _ h.symm; omega)).trans HKc.out
      have p6 : Blk PPT k1 #[.pointer (some ⟨b, 0, none⟩)] w6 := (hgrow6.block _ (by omega) (fun h => by have := hob _ h.symm; omega)).trans Hpc.out
      have K7 : Blk NDT k2 #[.int .i64 4, .string ⟨#[]⟩, .int .i64 0, .slice ka out.length kq, .slice none 0 0, .int .i64 t.at_] W7 := (hgrow7.block _ (by omega) (fun h => by have := hob _ h.symm; omega)).trans HKc.out
      have p7 : Blk PPT k1 #[.pointer (some ⟨b, 0, none⟩)] W7 := (hgrow7.block _ (by omega) (fun h => by have := hob _ h.symm; omega)).trans Hpc.out
      have hP7 := HPc.out.grown hgrow7 (fun h => by have := hob _ h; omega) (fun h => by have := hob _ h; omega)
      have hB7 := But.grown HBc.out hgrow7 hob
      have hSN := Lib.hid hsn
      have HK6 := Lib.hid K6
      have Hp6 := Lib.hid p6
      have HK7 := Lib.hid K7
      have Hp7 := Lib.hid p7
      have HP7 := Lib.hid hP7
      have HB7 := Lib.hid hB7
      clear hown6 hgrow6 hat6 hown7 hgrow7 hsn K6 p6 K7 p7 hP7 hB7 ce hob HROW HSUB HTc HNc HNEWS hfl
      refine hK.out _ _ ?_
      clear hK K
      try simp only [Act.put, Hd.sa, Hd.sz, Hd.ss]
      have hix : (out.length : Int) < (out.length : Int) + 1 := by omega
      refine Hf.takeV 7 8 (oi := ?_) (v := ?_) ?_ (by kernel_rfl) (fun c a w h => HPQ c _ _ w (put_defers a _ _) h) (by kernel_rfl) ?_ ?_ ?_
      rotate_left 2
      · simp only [Hd.ga, Hd.gs, Hd.gz]
        exact rfl
      · rfl
      · intro w
        go_simp
        try with_reducible rfl
      try simp only [Act.put, Hd.sa, Hd.sz, Hd.ss]
      refine Hf.takeV 9 10 (oi := ?_) (v := ?_) ?_ (by kernel_rfl) (fun c a w h => HPQ c _ _ w (put_defers a _ _) h) (by kernel_rfl) ?_ ?_ ?_
      rotate_left 2
      · simp only [Hd.ga, Hd.gs, Hd.gz]
        exact rfl
      · rfl
      · intro w
        go_simp
        try with_reducible rfl
      try simp only [Act.put, Hd.sa, Hd.sz, Hd.ss]
      have hlo : (out ++ [m]).length = out.length + 1 := by simp
      have hgk : gb ≠ k2 := by omega
      have hPf := HP7.out.far (p := ⟨k2, 3, none⟩) (show b ≠ k2 from Ne.symm hkb) (show tb ≠ k2 from Ne.symm hkt) (.slice (some ⟨gb, 0, none⟩) (out.length + 1) cap)
      have k3 := HK6.out.c 3 _ rfl
      have kf := HK6.out.fz
      have k73 := HK7.out.c 3 _ rfl
      have kf7 := HK7.out.fz
      refine Hf.twoM 8 10 (o := ?_) (p := ?_) ?_ ?_ (by kernel_rfl) (by kernel_rfl) (by kernel_rfl) (fun K hK => ?_) (fun K hK => ?_)
      rotate_left 2
      · simp only [Hd.ga, Hd.gs, Hd.gz]
        exact rfl
      · simp only [Hd.ga, Hd.gs, Hd.gz]
        exact rfl
      · go_simp
        refine hK.out _ _ ?_
        clear hK K
        try simp only [Act.put, Hd.sa, Hd.sz, Hd.ss]
        clear e0 e1 e2 e3 e4 e5 cf k3 kf
        refine Hf.last 10 (o := ?_) ?_ (by kernel_rfl) (by kernel_rfl) (by kernel_rfl) (fun K hK => ?_)
        rotate_left 1
        · simp only [Hd.ga, Hd.gs, Hd.gz]
          exact rfl
        go_simp
        refine hK.out _ _ ?_
        clear hK K
        try simp only [Act.put, Hd.sa, Hd.sz, Hd.ss]
        go_wp2_with fail
        refine ⟨⟨k2', g', out ++ [m], some ⟨gb, 0, none⟩, cap, q2, by rw [hlo]; omega, by omega, by omega, HRR, Lib.hid (by rw [hlo]; exact ownT_set hSN.out (fun h => by have h : some gb = some k2 := h; cases h; omega) (by unfold New; omega) _), Lib.hid (by rw [hlo]; exact HK7.out.set_ 3 _ _ rfl), Lib.hid (Hp7.out.far hk12 _), Lib.hid hPf, Lib.hid (HB7.out.set_ (k := k2) (.inr rfl) 3 _)⟩, ?_⟩
        rw [hPf.at_]; omega
      · go_simp
        refine hK.out _ _ ?_
        clear hK K
        try simp only [Act.put, Hd.sa, Hd.sz, Hd.ss]
        have hgk3 : ¬ k2 = gb := by omega
        obtain ⟨W8, hW8⟩ : ∃ W, w6.setCell ⟨k2, 3, none⟩ (.slice (some ⟨gb, 0, none⟩) (out.length + 1) cap) = W := ⟨_, rfl⟩
        rw [hW8]
        have hnk : ∀ j, W8.cell? ⟨gb, j, none⟩ = w6.cell? ⟨gb, j, none⟩ := fun j => by rw [← hW8]; exact World.cell?_of_block (Below.heap_setCell w6 ⟨k2, 3, none⟩ _ gb hgk)
        have hfk : ∀ j, W8.frozen? ⟨gb, j, none⟩ = w6.frozen? ⟨gb, j, none⟩ := fun j => by rw [← hW8]; exact World.frozen?_of_block (Below.heap_setCell w6 ⟨k2, 3, none⟩ _ gb hgk)
        rw [← hnk] at e0 e1 e2 e3 e4 e5
        have cf8 : ∀ j, W8.frozen? ⟨gb, j, none⟩ = false := fun j => (hfk j).trans (cf j)
        have hfin : (((((W8.setCell ⟨gb, out.length * 6, none⟩ (.int .i64 m.kind)).setCell ⟨gb, out.length * 6 + 1, none⟩ (.string ⟨m.name.toArray⟩)).setCell ⟨gb, out.length * 6 + 2, none⟩ (.int .i64 m.num)).setCell ⟨gb, out.length * 6 + 3, none⟩ (.slice la m.kids.length lc)).setCell ⟨gb, out.length * 6 + 4, none⟩ (.slice ma m.names.length mc)).setCell ⟨gb, out.length * 6 + 5, none⟩ (.int .i64 m.at_) = W7.setCell ⟨k2, 3, none⟩ (.slice (some ⟨gb, 0, none⟩) (out.length + 1) cap) := by
         rw [← hW8, ← hW7]
         rw [setCell_comm w6 (Ne.symm hgk), setCell_comm _ (Ne.symm hgk), setCell_comm _ (Ne.symm hgk), setCell_comm _ (Ne.symm hgk), setCell_comm _ (Ne.symm hgk), setCell_comm _ (Ne.symm hgk)]
        clear hW7 hW8 k3 kf k73 kf7 hnk hfk cf
        refine Hf.last 8 (o := ?_) ?_ (by kernel_rfl) (by kernel_rfl) (by kernel_rfl) (fun K hK => ?_)
        rotate_left 1
        · simp only [Hd.ga, Hd.gs, Hd.gz]
          exact rfl
        go_simp
        refine hK.out _ _ ?_
        clear hK K
        try simp only [Act.put, Hd.sa, Hd.sz, Hd.ss]
        go_wp2_with fail
        refine ⟨⟨k2', g', out ++ [m], some ⟨gb, 0, none⟩, cap, q2, by rw [hlo]; omega, by omega, by omega, HRR, Lib.hid (by rw [hlo]; exact ownT_set hSN.out (fun h => by have h : some gb = some k2 := h; cases h; omega) (by unfold New; omega) _), Lib.hid (by rw [hlo]; exact HK7.out.set_ 3 _ _ rfl), Lib.hid (Hp7.out.far hk12 _), Lib.hid hPf, Lib.hid (HB7.out.set_ (k := k2) (.inr rfl) 3 _)⟩, ?_⟩
        rw [hPf.at_]; omega
end
end Pa
end Go.Proofs.YtbdgoimbddlcoaaGreatDoor
