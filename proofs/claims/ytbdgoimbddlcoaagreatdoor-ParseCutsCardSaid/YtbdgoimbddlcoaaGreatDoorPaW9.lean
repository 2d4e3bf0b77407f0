/- Package parse, the walk, 9: statements (wip/gen/gen_paw9.py prints this). -/
import Derived.Test.YtbdgoimbddlcoaaGreatDoorPaX2
set_option linter.unusedVariables false
namespace Go.Proofs.YtbdgoimbddlcoaaGreatDoor
open Go.RowKit
namespace Pa
open Bs Sm Tr
open Lx (Mv)
section
variable {b : Nat} {L : List Pt} {tb tc : Nat} {bad : Int} {a d f : Nat} {w w' w0 : World} {S S' : Nat → Prop} {K : Nat} {x : Nd}
theorem ownT_mv {T B : Nat} {v : Value} {l : List Nd} (h : OwnT T B S w v l) (hm : Mv b w w') (hB : b < B) (hS : ¬ S b) : OwnT T B S w' v l :=
 h.kp hm.size (fun k hk hs => hm.block k hk (fun e => by rcases hs with hs | hs; exact hS (e ▸ hs); omega))
theorem stmts_round (hL : LOk L) {g k : Nat} {out : List Nd} {e : Int} {R : PE (List Nd × Nat)} (hg : 16 * (L.length - k) + 9 ≤ g) (h : stmtsP L bad g d e k out = R) :
  (isK L e k = true → endP L bad e k out = R) ∧ (isK L e k = false → ∃ g', g = g' + 1 ∧ (stmtP L bad g' d k >>= fun r => if isK L 9 r.2.2 = true then (if r.2.1 = true then endP L bad e (r.2.2 + 1) (out ++ [r.1]) else stmtsP L bad g' d e (r.2.2 + 1) (out ++ [r.1])) else endP L bad e r.2.2 (out ++ [r.1])) = R) := by
 cases g with
 | zero => omega
 | succ g =>
  rw [stmtsP] at h
  refine ⟨fun hq => ?_, fun hq => ?_⟩
  · rw [if_pos hq] at h
    unfold endP
    rw [if_pos hq]; exact h
  · rw [if_neg (by rw [hq]; simp)] at h
    exact ⟨g, rfl, h⟩
set_option maxRecDepth 100000 in
set_option maxHeartbeats 3200000 in
theorem stmts_step (hL : LOk L) (hall : ∀ g, g ≤ f → PA L bad g) (hP : Pr b L tb tc bad a d w) (ha : a < L.length) (hd : d ≤ 40) {e : Int} (he : e = 0 ∨ e = 14) (hf : 16 * (L.length - a) + 9 ≤ f + 1) :
  Calls Tryz.prog 53 #[.pointer (some ⟨b, 0, none⟩), .int .i64 e] w (NsO b L tb tc bad d (New w) (stmtsP L bad (f + 1) d e a []) w) := by
 have hlen := hL.len
 have hbl := hP.blk.lt
 have htl := hP.lt
 obtain ⟨i0, hi0, hz0, hz1, hz2⟩ := info_parts (show (Tryz.prog.info? NDT).map (fun i => (i.zero, i.size, i.bytes)) = some (some (.agg #[.int .i64 0, .string ⟨#[]⟩, .int .i64 0, .slice none 0 0, .slice none 0 0, .int .i64 0]), 6, 88) by kernel_rfl)
 have tsl : Tryz.prog.underlying 26 = some (.slice NDT) := by kernel_rfl
 obtain ⟨R, hR⟩ : ∃ R, stmtsP L bad (f + 1) d e a [] = R := ⟨_, rfl⟩
 rw [hR]
 have HR := Lib.hid hR
 have HP := Lib.hid hP
 have HALL := Lib.hid hall
 have HL := Lib.hid hL
 have HE := Lib.hid he
 clear hR hP hall hL he
 go_enter Tryz.func53, Tryz.ntmps53
 go_wp2_with fail
 go_loopw [5] (fun o wr => ∃ (k g : Nat) (out : List Nd), k < L.length ∧ out.length ≤ k ∧ 16 * (L.length - k) + 9 ≤ g ∧ g ≤ f + 1 ∧ Hid (stmtsP L bad g d e k out = R) ∧ Hid (OwnT NDT w.heap.size (New w) wr o out) ∧ Hid (Pr b L tb tc bad k d wr) ∧ Hid (Mv b w wr)) (fun _ wr => L.length - atP b wr)
 case atStart => exact ⟨a, f + 1, [], ha, Nat.zero_le _, by omega, Nat.le_refl _, HR, Lib.hid (OwnT.nil _ _ _ _), HP, Lib.hid (Mv.refl _ _)⟩
 case round =>
  obtain ⟨k, g, out, hk, hok, hg, hgf, HEk, HOw, HPk, HMv⟩ := hrel
  have hatk := HPk.out.at_
  have hrd := stmts_round HL.out hg HEk.out
  have HI := Lib.hid (is_any HPk.out hk e)
  have HIB := fun w' (hb : Below wr.heap.size wr w') => is_any (HPk.out.bel hb) hk e
  obtain ⟨q, hq⟩ : ∃ t, isK L e k = t := ⟨_, rfl⟩
  have HQ := Lib.hid hq
  rw [hq] at HI hrd HIB
  have HRD := Lib.hid hrd
  replace HIB := Lib.hid HIB
  have hms := HMv.out.size
  clear hrd hq HEk
  go_wp2_with fail
  refine HI.out.mono ?_; rintro er w1 ⟨rfl, hb1⟩
  have hs1 := hb1.size
  cases q with
  | true =>
   have hR := HRD.out.1 (by first | rfl | trivial)
   unfold endP at hR
   rw [if_pos HQ.out] at hR
   subst hR
   go_wp2_with fail
   refine (HIB.out w1 hb1).mono ?_; rintro er w2 ⟨rfl, hb2⟩
   have hb := hb1.trans (hb2.mono hb1.size)
   have how := HOw.out.bel hb
   have hP2 := HPk.out.bel hb
   have hM2 := HMv.out.trans (Mv.of_bel hb)
   have hT2 : Tree (New w) w2 u5 out := how.tree.mono (fun j hj _ => by
    rcases hj with hj | hj
    · exact hj
    · obtain ⟨vl, -, hr, -⟩ := how
      exact (hr.lt j hj).1)
   have HT2 := Lib.hid hT2
   have HP2 := Lib.hid hP2
   have HM2 := Lib.hid hM2
   clear HOw HPk HMv hb how hP2 hM2 hT2 hb1 hb2 HRD HIB
   go_wp2_with fail
   go_ret
   exact ⟨_, HT2.out, rfl, HP2.out, HM2.out⟩
  | false =>
   obtain ⟨g', rfl, hR⟩ := HRD.out.2 (by first | rfl | trivial)
   have HC := fun (w' : World) (hp : Pr b L tb tc bad k d w') => (HALL.out g' (by omega)).stmt hp hk hd (by omega)
   have hres := (PB.all (bad := bad) HL.out g').stmt d k hk
   obtain ⟨E, hE⟩ : ∃ E, stmtP L bad g' d k = E := ⟨_, rfl⟩
   rw [hE] at HC hR hres
   replace HC := Lib.hid HC
   have HR2 := Lib.hid hR
   clear hR HRD hE HIB HR
   go_wp2_with fail
   refine (HC.out w1 (HPk.out.bel hb1)).mono ?_; intro er w2 ht
   cases E with
   | error y =>
    obtain ⟨rfl, hm⟩ := ht
    have hR := HR2.out
    simp only [bind, Except.bind] at hR
    subst hR
    go_wp2_with fail
    exact ⟨rfl, rfl, (HMv.out.trans (Mv.of_bel hb1)).trans hm⟩
   | ok y =>
    obtain ⟨n, l, k2⟩ := y
    have hR := HR2.out
    simp only [bind, Except.bind] at hR
    replace HR2 := Lib.hid hR
    clear hR
    obtain ⟨v, hv, rfl, hP2, hm2⟩ := ht
    obtain ⟨ka, kc, na, nc, rfl, hT, hN⟩ := hv.form
    obtain ⟨r1, r2, -, -⟩ := hres
    simp only at r1 r2
    have hs2 := hm2.size
    have hO2 := ownT_mv (HOw.out.bel hb1) hm2 hbl (by unfold New; omega)
    have hM2 := (HMv.out.trans (Mv.of_bel hb1)).trans hm2
    have hob : ∀ j, u5.ownBlock = some j → w.heap.size ≤ j ∧ j < w1.heap.size := fun j hj => by
     obtain ⟨vl', -, hr', -⟩ := HOw.out.bel hb1
     exact hr'.lt j hj
    have hT2 := hT.mono (S' := fun j => New w j ∧ u5.ownBlock ≠ some j) (fun j hj hl => by unfold New at *; exact ⟨by omega, fun h => by have := hob j h; omega⟩)
    have hN2 := hN.mono (S' := fun j => New w j ∧ u5.ownBlock ≠ some j) (fun j hj hl => by unfold New at *; exact ⟨by omega, fun h => by have := hob j h; omega⟩)
    have hbbA := alloc_bel w2 (.cells #[.int .i64 n.kind, .string ⟨n.name.toArray⟩, .int .i64 n.num, .slice ka n.kids.length kc, .slice na n.names.length nc, .int .i64 n.at_] NDT)
    have hMkA := Blk.made (T := NDT) (cs := #[.int .i64 n.kind, .string ⟨n.name.toArray⟩, .int .i64 n.num, .slice ka n.kids.length kc, .slice na n.names.length nc, .int .i64 n.at_]) w2
    have hszA : (w2.alloc (.cells #[.int .i64 n.kind, .string ⟨n.name.toArray⟩, .int .i64 n.num, .slice ka n.kids.length kc, .slice na n.names.length nc, .int .i64 n.at_] NDT)).heap.size = w2.heap.size + 1 := by simp
    have hP3 := hP2.bel hbbA
    have hM3 := hM2.alloc (.cells #[.int .i64 n.kind, .string ⟨n.name.toArray⟩, .int .i64 n.num, .slice ka n.kids.length kc, .slice na n.names.length nc, .int .i64 n.at_] NDT)
    have hO3 := hO2.bel hbbA
    have hT3 := hT2.bel hbbA
    have hN3 := hN2.below hbbA
    obtain ⟨W3, halA⟩ : ∃ W, w2.alloc (.cells #[.int .i64 n.kind, .string ⟨n.name.toArray⟩, .int .i64 n.num, .slice ka n.kids.length kc, .slice na n.names.length nc, .int .i64 n.at_] NDT) = W := ⟨_, rfl⟩
    rw [halA] at hMkA hszA hP3 hM3 hO3 hT3 hN3
    clear hbbA
    have e0 := hMkA.c 0 _ rfl
    have e1 := hMkA.c 1 _ rfl
    have e2 := hMkA.c 2 _ rfl
    have e3 := hMkA.c 3 _ rfl
    have e4 := hMkA.c 4 _ rfl
    have e5 := hMkA.c 5 _ rfl
    have hbbB := alloc_bel W3 (.cells #[.int .i64 n.kind, .string ⟨n.name.toArray⟩, .int .i64 n.num, .slice ka n.kids.length kc, .slice na n.names.length nc, .int .i64 n.at_] NDT)
    have hMkB := Blk.made (T := NDT) (cs := #[.int .i64 n.kind, .string ⟨n.name.toArray⟩, .int .i64 n.num, .slice ka n.kids.length kc, .slice na n.names.length nc, .int .i64 n.at_]) W3
    have hszB : (W3.alloc (.cells #[.int .i64 n.kind, .string ⟨n.name.toArray⟩, .int .i64 n.num, .slice ka n.kids.length kc, .slice na n.names.length nc, .int .i64 n.at_] NDT)).heap.size = W3.heap.size + 1 := by simp
    have hP4 := hP3.bel hbbB
    have hM4 := hM3.alloc (.cells #[.int .i64 n.kind, .string ⟨n.name.toArray⟩, .int .i64 n.num, .slice ka n.kids.length kc, .slice na n.names.length nc, .int .i64 n.at_] NDT)
    have hO4 := hO3.bel hbbB
    have hT4 := hT3.bel hbbB
    have hN4 := hN3.below hbbB
    obtain ⟨W4, halB⟩ : ∃ W, W3.alloc (.cells #[.int .i64 n.kind, .string ⟨n.name.toArray⟩, .int .i64 n.num, .slice ka n.kids.length kc, .slice na n.names.length nc, .int .i64 n.at_] NDT) = W := ⟨_, rfl⟩
    rw [halB] at hMkB hszB hP4 hM4 hO4 hT4 hN4
    clear hbbB
    obtain ⟨vl, hvl, hrow, hsub⟩ := hO4
    have hvll : vl.length = out.length := by have := congrArg List.length hvl; rwa [List.length_map] at this
    have hms4 := hM4.size
    rw [hszA] at hMkB
    have hnews := World.news_of_block hMkB
    have HP4 := Lib.hid hP4
    have HM4 := Lib.hid hM4
    have HT4 := Lib.hid hT4
    have HN4 := Lib.hid hN4
    have HROW := Lib.hid hrow
    have HSUB := Lib.hid hsub
    have HVL := Lib.hid hvl
    have HVLL := Lib.hid hvll
    have HNEWS := Lib.hid hnews
    have HOB := Lib.hid hob
    clear hv hP2 hm2 hT hN hO2 hM2 hob hT2 hN2 hP3 hM3 hO3 hT3 hN3 hP4 hM4 hT4 hN4 hrow hsub hvl hvll hnews hMkA hMkB HOw HPk HMv
    unfold ndA
    go_wp2_with (at_builtin; refine wpList_append_lies _ rfl _ _ 26 rfl w.heap.size NDT i0 (.agg #[.int .i64 0, .string ⟨#[]⟩, .int .i64 0, .slice none 0 0, .slice none 0 0, .int .i64 0]) 6 88 tsl hi0 hz0 hz1 hz2 rfl (by decide) _ vl.length (flatN vl) rfl HROW.out ⟨w2.heap.size + 1, 0, none⟩ 1 1 [.int .i64 n.kind, .string ⟨n.name.toArray⟩, .int .i64 n.num, .slice ka n.kids.length kc, .slice na n.names.length nc, .int .i64 n.at_] rfl rfl HNEWS.out (fun u hu => by simp at hu; rcases hu with rfl | rfl | rfl | rfl | rfl | rfl <;> rfl) (by decide) (by have := HVLL.out; unfold maxLen; omega) (by have := HVLL.out; omega) (by omega) _ rfl ?_)
    intro gb cap w5 hown5 hgrow5 hat5 hlt5
    have hsn := own_snoc (n := vl.length) (S := New w) (x := n) (kv := .slice ka n.kids.length kc) (nv := .slice na n.names.length nc) rfl hgrow5.size HSUB.out HT4.out HN4.out hown5 hgrow5 (by rw [hszB, hszA]; exact hat5)
    rw [HVL.out] at hsn
    have hob2 : ∀ j, u5.ownBlock = some j → w.heap.size ≤ j := fun j hj => (HOB.out j hj).1
    have hP5 := HP4.out.grown hgrow5 (fun h => by have := hob2 _ h; omega) (fun h => by have := hob2 _ h; omega)
    have hM5 := Mv.grown HM4.out hgrow5 hob2
    have hK5 : True := trivial
    have hs5 := hgrow5.size
    have HSN := Lib.hid hsn
    have HP5 := Lib.hid hP5
    have HM5 := Lib.hid hM5
    have HI9 := Lib.hid (is_any hP5 r2 9)
    have hm5s := hM5.size
    clear hown5 hgrow5 hat5 hsn hP5 hM5 HROW HSUB HT4 HN4 HP4 HM4 HNEWS e0 e1 e2 e3 e4 e5 halA halB
    obtain ⟨q9, hq9⟩ : ∃ t, isK L 9 k2 = t := ⟨_, rfl⟩
    rw [hq9] at HI9
    have hnx : q9 = true → k2 + 1 < L.length := fun h => HL.out.next (hq9.trans h) (by omega) r2
    have HQ9 := Lib.hid hq9
    clear hq9
    go_wp2_with fail
    refine HI9.out.mono ?_; rintro er w6 ⟨rfl, hb6⟩
    have hs6 := hb6.size
    cases q9 with
    | false =>
     have hR := HR2.out
     rw [if_neg (by rw [HQ9.out]; simp)] at hR
     unfold endP at hR
     have HPt := Lib.hid (HP5.out.bel hb6)
     have HOt := Lib.hid (HSN.out.bel hb6)
     have HMt := Lib.hid (HM5.out.trans (Mv.of_bel hb6))
     have hkk := r2
     obtain ⟨Wt, hWt⟩ : ∃ W, w6 = W := ⟨_, rfl⟩
     rw [hWt] at HPt HOt HMt ⊢
     clear HSN HP5 HM5 HI9 hb6 hWt HR2
     have HIt := fun w' (hb : Below Wt.heap.size Wt w') => is_any (HPt.out.bel hb) hkk e
     have HSt := fun w' (hb : Below Wt.heap.size Wt w') => stop_any (HPt.out.bel hb) hkk
     have HIe := Lib.hid (HIt Wt (Below.refl _ _))
     obtain ⟨qt, hqt⟩ : ∃ t, isK L e k2 = t := ⟨_, rfl⟩
     rw [hqt] at HIe
     replace HSt := Lib.hid HSt
     have HQt := Lib.hid hqt
     clear HIt hqt
     cases qt with
     | true =>
      rw [if_pos HQt.out] at hR
      subst hR
      go_wp2_with fail
      refine HIe.out.mono ?_; rintro er w8 ⟨rfl, hb8⟩
      have how := HOt.out.bel hb8
      have hT8 : Tree (New w) w8 (.slice (some ⟨gb, 0, none⟩) (vl.length + 1) cap) (out ++ [n]) := how.tree.mono (fun j hj _ => by
       rcases hj with hj | hj
       · exact hj
       · obtain ⟨vl, -, hr, -⟩ := how
         exact (hr.lt j hj).1)
      have HT8 := Lib.hid hT8
      have HP8 := Lib.hid (HPt.out.bel hb8)
      have HM8 := Lib.hid (HMt.out.trans (Mv.of_bel hb8))
      clear how hT8 hb8 HOt
      go_wp2_with fail
      go_ret
      exact ⟨_, HT8.out, rfl, HP8.out, HM8.out⟩
     | false =>
      rw [if_neg (by rw [HQt.out]; simp)] at hR
      subst hR
      go_wp2_with fail
      refine HIe.out.mono ?_; rintro er w8 ⟨rfl, hb8⟩
      go_wp2_with fail
      refine (HSt.out w8 hb8).mono ?_; rintro er w9 ⟨rfl, hm9⟩
      go_wp2_with fail
      exact ⟨rfl, rfl, (HMt.out.trans (Mv.of_bel hb8)).trans hm9⟩
    | true =>
     have hk3 := hnx rfl
     have hR := HR2.out
     rw [if_pos HQ9.out] at hR
     have hP6 := HP5.out.bel hb6
     have hO6 := HSN.out.bel hb6
     have hM6 := HM5.out.trans (Mv.of_bel hb6)
     have c2 := hP6.c2
     have f2 := hP6.blk.fz 2
     have wk : IntKind.i64.wrap ((k2 : Int) + 1) = (k2 : Int) + 1 := IntWalk.i64_in _ (by omega)
     obtain ⟨Wt, hWt⟩ : ∃ W, w6.setCell ⟨b, 2, none⟩ (.int .i64 ((k2 : Int) + 1)) = W := ⟨_, rfl⟩
     have HPt : Hid (Pr b L tb tc bad (k2 + 1) d Wt) := Lib.hid (by rw [← hWt]; exact hP6.setA (k2 + 1))
     have HMt : Hid (Mv b w Wt) := Lib.hid (by rw [← hWt]; exact hM6.set_ 2 _)
     have HOt : Hid (OwnT NDT w.heap.size (New w) Wt (.slice (some ⟨gb, 0, none⟩) (vl.length + 1) cap) (out ++ [n])) := Lib.hid (by rw [← hWt]; exact ownT_mv hO6 ((Mv.refl b w6).set_ 2 _) hbl (by unfold New; omega))
     have hkk := hk3
     clear hP6 hO6 hM6 HSN HP5 HM5 HI9 HR2
     cases l with
     | true =>
      rw [if_pos rfl] at hR
      unfold endP at hR
      go_upto_region 8 with fail
      clear c2 f2 hWt
      have HIt := fun w' (hb : Below Wt.heap.size Wt w') => is_any (HPt.out.bel hb) hkk e
      have HSt := fun w' (hb : Below Wt.heap.size Wt w') => stop_any (HPt.out.bel hb) hkk
      have HIe := Lib.hid (HIt Wt (Below.refl _ _))
      obtain ⟨qt, hqt⟩ : ∃ t, isK L e (k2 + 1) = t := ⟨_, rfl⟩
      rw [hqt] at HIe
      replace HSt := Lib.hid HSt
      have HQt := Lib.hid hqt
      clear HIt hqt
      cases qt with
      | true =>
       rw [if_pos HQt.out] at hR
       subst hR
       go_wp2_with fail
       refine HIe.out.mono ?_; rintro er w8 ⟨rfl, hb8⟩
       have how := HOt.out.bel hb8
       have hT8 : Tree (New w) w8 (.slice (some ⟨gb, 0, none⟩) (vl.length + 1) cap) (out ++ [n]) := how.tree.mono (fun j hj _ => by
        rcases hj with hj | hj
        · exact hj
        · obtain ⟨vl, -, hr, -⟩ := how
          exact (hr.lt j hj).1)
       have HT8 := Lib.hid hT8
       have HP8 := Lib.hid (HPt.out.bel hb8)
       have HM8 := Lib.hid (HMt.out.trans (Mv.of_bel hb8))
       clear how hT8 hb8 HOt
       go_wp2_with fail
       go_ret
       exact ⟨_, HT8.out, rfl, HP8.out, HM8.out⟩
      | false =>
       rw [if_neg (by rw [HQt.out]; simp)] at hR
       subst hR
       go_wp2_with fail
       refine HIe.out.mono ?_; rintro er w8 ⟨rfl, hb8⟩
       go_wp2_with fail
       refine (HSt.out w8 hb8).mono ?_; rintro er w9 ⟨rfl, hm9⟩
       go_wp2_with fail
       exact ⟨rfl, rfl, (HMt.out.trans (Mv.of_bel hb8)).trans hm9⟩
     | false =>
      rw [if_neg (by simp)] at hR
      have HRR := Lib.hid hR
      clear hR
      go_wp2_with fail
      have hat := HPt.out.at_
      exact ⟨⟨k2 + 1, g', out ++ [n], hk3, by simp; omega, by omega, by omega, HRR, HOt, HPt, HMt⟩, by rw [hat]; omega⟩
end
end Pa
end Go.Proofs.YtbdgoimbddlcoaaGreatDoor
