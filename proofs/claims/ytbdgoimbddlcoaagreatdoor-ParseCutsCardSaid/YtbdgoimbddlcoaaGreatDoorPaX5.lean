/- Package parse, the walk, 21: all that call themselves, tied. · Package parse, the walk, 22: primitive. · Package parse, the walk, 23: pattern. -/
import Derived.Test.YtbdgoimbddlcoaaGreatDoorPaWk
set_option linter.unusedVariables false
namespace Go.Proofs.YtbdgoimbddlcoaaGreatDoor
open Go.RowKit
namespace Pa
open Bs Sm Tr
open Lx (Mv)
section
variable {L : List Pt} {bad : Int}
theorem PA.zero : PA L bad 0 where
 expr _ _ _ hf := by omega
 casc _ _ _ hf := by omega
 msg _ _ _ _ _ hf := by omega
 kws _ _ _ _ _ hf := by omega
 kwd _ _ _ hf := by omega
 bin _ _ _ hf := by omega
 un _ _ _ hf := by omega
 prim _ _ _ hf := by omega
 block _ _ _ _ hf := by omega
 stmts _ _ _ _ hf := by omega
 stmt _ _ _ hf := by omega
 list _ _ _ _ hf := by omega
 elem _ _ _ hf := by omega
theorem PA.succ {f : Nat} (hL : LOk L) (hall : ∀ g, g ≤ f → PA L bad g) : PA L bad (f + 1) where
 expr hP ha hd hf := expr_step hL (hall f (Nat.le_refl _)) hP ha hd hf
 casc hP ha hd hf := casc_step hL hall hP ha hd hf
 msg hP ha hd hv hS hf := msg_step hL (hall f (Nat.le_refl _)) hP ha hd hv hS hf
 kws hP ha hd hv hS hf := kws_step hL hall hP ha hd hv hS hf
 kwd hP ha hd hf := kwd_step hL (hall f (Nat.le_refl _)) hP ha hd hf
 bin hP ha hd hf := bin_step hL hall hP ha hd hf
 un hP ha hd hf := un_step hL (hall f (Nat.le_refl _)) hP ha hd hf
 prim hP ha hd hf := prim_step hL (hall f (Nat.le_refl _)) hP ha hd hf
 block hP ha hd hk hf := block_step hL (hall f (Nat.le_refl _)) hP ha hd hk hf
 stmts hP ha hd he hf := stmts_step hL hall hP ha hd he hf
 stmt hP ha hd hf := stmt_step hL (hall f (Nat.le_refl _)) hP ha hd hf
 list hP ha hd hk hf := list_step hL hall hP ha hd hk hf
 elem hP ha hd hf := elem_step hL (hall f (Nat.le_refl _)) hP ha hd hf
theorem PA.upto (hL : LOk L) : ∀ f g, g ≤ f → PA L bad g
 | 0, g, h => (Nat.le_zero.1 h) ▸ PA.zero
 | f + 1, g, h => by
  by_cases hg : g ≤ f
  · exact PA.upto hL f g hg
  · obtain rfl : g = f + 1 := by omega
    exact PA.succ hL (fun g hg => PA.upto hL f g hg)
theorem PA.all (hL : LOk L) (f : Nat) : PA L bad f := PA.upto hL f f (Nat.le_refl _)
end
end Pa
end Go.Proofs.YtbdgoimbddlcoaaGreatDoor
namespace Go.Proofs.YtbdgoimbddlcoaaGreatDoor
open Go.RowKit
namespace Pa
open Bs Sm Tr
open Lx (Mv)
section
variable {b : Nat} {L : List Pt} {tb tc : Nat} {bad : Int} {a d f : Nat} {w w' w0 : World}
/-- A number, or a fault. -/
def InO (b : Nat) (L : List Pt) (tb tc : Nat) (bad : Int) (d : Nat) (x : PE (Int × Nat)) (w : World) (e : Ending) (w' : World) : Prop :=
 match x with
 | .error E => Fel b E w e w'
 | .ok (n, a) => Trn b L tb tc bad a d (.int .i64 n) w e w'
set_option maxRecDepth 100000 in
set_option maxHeartbeats 3200000 in
theorem primitive_any (hL : LOk L) (hP : Pr b L tb tc bad a d w) (ha : a < L.length) :
  Calls Tryz.prog 51 #[.pointer (some ⟨b, 0, none⟩)] w (InO b L tb tc bad d (primNP L bad a) w) := by
 have hlen := hL.len
 have hbl := hP.blk.lt
 have HO := Lib.hid (op_any hP ha [60])
 obtain ⟨R, hR⟩ : ∃ R, primNP L bad a = R := ⟨_, rfl⟩
 rw [hR]
 unfold primNP at hR
 obtain ⟨q, hq⟩ : ∃ t, opB L [60] a = t := ⟨_, rfl⟩
 have hk1f : q = true → a + 1 < L.length := fun h => hL.next (opB_k (hq.trans h)) (by omega) ha
 rw [hq] at HO hR
 cases q with
 | false =>
  rw [if_neg (by simp)] at hR
  subst hR
  have HP := Lib.hid hP
  clear hP hL hq
  go_enter Tryz.func51, Tryz.ntmps51
  go_wp2_with fail
  refine HO.out.mono ?_; rintro e w1 ⟨rfl, hb⟩
  go_wp2_with fail
  go_ret
  exact ⟨rfl, HP.out.bel hb, Mv.of_bel hb⟩
 | true =>
  have hk1 := hk1f rfl
  clear hk1f
  rw [if_pos rfl] at hR
  have HPW := fun w' (hb : Below w.heap.size w w') => hP.bel hb
  have HNW := fun (a' : Nat) (ha' : a' < L.length) (w' : World) (hp : Pr b L tb tc bad a' d w') => now_any hp ha'
  have HSP := fun (a' : Nat) (ha' : a' < L.length) (w' : World) (hp : Pr b L tb tc bad a' d w') => stop_any hp ha'
  have HTK := fun (k : Int) (a' : Nat) (ha' : a' < L.length) (w' : World) (hp : Pr b L tb tc bad a' d w') => take_any hp ha' hlen k
  have HTO := fun (a' : Nat) (ha' : a' < L.length) (w' : World) (hp : Pr b L tb tc bad a' d w') => takeOp_any hp ha' hlen [62]
  have HNUM := fun (a' : Nat) (ha' : a' < L.length) => hL.num a' ha'
  have HNXT := fun (k : Int) (a' : Nat) (hk : 0 < k) (ha' : a' < L.length) (h : isK L k a' = true) => hL.next h hk ha'
  obtain ⟨t, ht⟩ : ∃ t, now L (a + 1) = t := ⟨_, rfl⟩
  have HN1 := HNW (a + 1) hk1
  rw [ht] at hR HN1
  replace HPW := Lib.hid HPW
  replace HN1 := Lib.hid HN1
  replace HNW := Lib.hid HNW
  replace HSP := Lib.hid HSP
  replace HTK := Lib.hid HTK
  replace HTO := Lib.hid HTO
  replace HNUM := Lib.hid HNUM
  replace HNXT := Lib.hid HNXT
  have F1 := fld1
  have F2 := fld2
  clear hP hL hq ht
  unfold ptV at HN1
  obtain ⟨v, hv⟩ : ∃ v, (t.word == [112, 114, 105, 109, 105, 116, 105, 118, 101, 58]) = v := ⟨_, rfl⟩
  have hveq : v = true ↔ t.word = [112, 114, 105, 109, 105, 116, 105, 118, 101, 58] := by rw [← hv]; simp
  have HVE := Lib.hid hveq
  clear hveq
  cases v with
  | false =>
   rw [if_neg (fun h => by have := HVE.out.2 h; cases this)] at hR
   subst hR
   go_enter Tryz.func51, Tryz.ntmps51
   go_wp2_with fail
   refine HO.out.mono ?_; rintro e w1 ⟨rfl, hb⟩
   have hP1 := HPW.out w1 hb
   have c2 := hP1.c2
   have f2 := hP1.blk.fz 2
   have wa : IntKind.i64.wrap ((a : Int) + 1) = (a : Int) + 1 := IntWalk.i64_in _ (by omega)
   obtain ⟨W2, hW2⟩ : ∃ W, w1.setCell ⟨b, 2, none⟩ (.int .i64 ((a : Int) + 1)) = W := ⟨_, rfl⟩
   have hP2 : Pr b L tb tc bad (a + 1) d W2 := by rw [← hW2]; exact hP1.setA (a + 1)
   have hM2 : Mv b w W2 := by rw [← hW2]; exact (Mv.of_bel hb).set_ 2 _
   have HP2 := Lib.hid hP2
   have HM2 := Lib.hid hM2
   clear hP1 hP2 hM2
   go_wp2_with fail
   refine (HN1.out W2 HP2.out).mono ?_; rintro e w3 ⟨rfl, hb3⟩
   go_wp2_with fail
   refine (HSP.out (a + 1) hk1 w3 (HP2.out.bel hb3)).mono ?_; rintro e w4 ⟨rfl, hm4⟩
   go_wp2_with fail
   exact ⟨rfl, rfl, (HM2.out.trans (Mv.of_bel hb3)).trans hm4⟩
  | true =>
   rw [if_pos (HVE.out.1 (by first | rfl | trivial))] at hR
   obtain ⟨r, hr⟩ : ∃ t, isK L 2 (a + 1) = t := ⟨_, rfl⟩
   have hk2f : r = true → a + 1 + 1 < L.length := fun h => HNXT.out 2 (a + 1) (by omega) hk1 (hr.trans h)
   have HTK2 := fun (w' : World) (hp : Pr b L tb tc bad (a + 1) d w') => HTK.out 2 (a + 1) hk1 w' hp
   unfold takeP at hR
   rw [hr] at hR HTK2
   have HTK2 := Lib.hid HTK2
   have HRR := Lib.hid hR
   clear hR hr
   go_enter Tryz.func51, Tryz.ntmps51
   go_wp2_with fail
   refine HO.out.mono ?_; rintro e w1 ⟨rfl, hb⟩
   have hP1 := HPW.out w1 hb
   have c2 := hP1.c2
   have f2 := hP1.blk.fz 2
   have wa : IntKind.i64.wrap ((a : Int) + 1) = (a : Int) + 1 := IntWalk.i64_in _ (by omega)
   obtain ⟨W2, hW2⟩ : ∃ W, w1.setCell ⟨b, 2, none⟩ (.int .i64 ((a : Int) + 1)) = W := ⟨_, rfl⟩
   have hP2 : Pr b L tb tc bad (a + 1) d W2 := by rw [← hW2]; exact hP1.setA (a + 1)
   have hM2 : Mv b w W2 := by rw [← hW2]; exact (Mv.of_bel hb).set_ 2 _
   have HP2 := Lib.hid hP2
   have HM2 := Lib.hid hM2
   clear hP1 hP2 hM2
   go_wp2_with fail
   refine (HN1.out W2 HP2.out).mono ?_; rintro e w3 ⟨rfl, hb3⟩
   go_wp2_with fail
   have hP3 := HP2.out.bel hb3
   have hM3 := HM2.out.trans (Mv.of_bel hb3)
   refine (HTK2.out w3 hP3).mono ?_; intro e w4 ht4
   cases r with
   | false =>
    simp only [Bool.false_eq_true, if_false] at ht4
    have hR := HRR.out
    simp only [Bool.false_eq_true, if_false, bind, Except.bind] at hR
    subst hR
    obtain ⟨rfl, hm⟩ := ht4
    go_wp2_with fail
    exact ⟨rfl, rfl, hM3.trans hm⟩
   | true =>
    simp only [if_true] at ht4
    have hk2 := hk2f rfl
    clear hk2f
    have hR := HRR.out
    simp only [if_true, bind, Except.bind] at hR
    obtain ⟨rfl, hP4, hm4⟩ := ht4
    have hM4 := hM3.trans hm4
    have HN2 := HNW.out (a + 1 + 1) hk2 w4 hP4
    have hnu := HNUM.out (a + 1 + 1) hk2
    obtain ⟨u, hu⟩ : ∃ t, now L (a + 1 + 1) = t := ⟨_, rfl⟩
    rw [hu] at HN2 hR hnu
    have HN2 := Lib.hid HN2
    have HR3 := Lib.hid hR
    have HP4 := Lib.hid hP4
    have HM4 := Lib.hid hM4
    clear hR hP4 hM4 hm4 HRR
    unfold ptV at HN2
    unfold ptV
    go_wp2_with fail
    refine HN2.out.mono ?_; rintro e w5 ⟨rfl, hb5⟩
    have hP5 := HP4.out.bel hb5
    have hM5 := HM4.out.trans (Mv.of_bel hb5)
    have HP5 := Lib.hid hP5
    have HM5 := Lib.hid hM5
    clear hP5 hM5 HP4 HM4
    by_cases hlo : u.num < 1
    · have hR := HR3.out
      rw [if_pos (.inl hlo)] at hR
      subst hR
      go_wp2_with fail
      refine (HSP.out (a + 1 + 1) hk2 w5 HP5.out).mono ?_; rintro e w6 ⟨rfl, hm6⟩
      go_wp2_with fail
      exact ⟨rfl, rfl, HM5.out.trans hm6⟩
    by_cases hhi : 999 < u.num
    · have hR := HR3.out
      rw [if_pos (.inr hhi)] at hR
      subst hR
      go_wp2_with fail
      refine (HSP.out (a + 1 + 1) hk2 w5 HP5.out).mono ?_; rintro e w6 ⟨rfl, hm6⟩
      go_wp2_with fail
      exact ⟨rfl, rfl, HM5.out.trans hm6⟩
    have hR := HR3.out
    rw [if_neg (by omega)] at hR
    obtain ⟨r3, hr3⟩ : ∃ t, isK L 3 (a + 1 + 1) = t := ⟨_, rfl⟩
    have hk3f : r3 = true → a + 1 + 1 + 1 < L.length := fun h => HNXT.out 3 (a + 1 + 1) (by omega) hk2 (hr3.trans h)
    have HT3 := HTK.out 3 (a + 1 + 1) hk2 w5 HP5.out
    rw [hr3, hu] at HT3
    rw [hr3] at hR
    have HT3 := Lib.hid HT3
    have HR4 := Lib.hid hR
    clear hR hr3 hu HR3
    go_wp2_with fail
    refine HT3.out.mono ?_; intro e w6 ht6
    cases r3 with
    | false =>
     simp only [Bool.false_eq_true, if_false] at ht6
     have hR := HR4.out
     simp only [Bool.false_eq_true, if_false] at hR
     subst hR
     obtain ⟨rfl, hm⟩ := ht6
     go_wp2_with fail
     exact ⟨rfl, rfl, HM5.out.trans hm⟩
    | true =>
     simp only [if_true] at ht6
     have hR := HR4.out
     simp only [if_true] at hR
     have hk3 := hk3f rfl
     clear hk3f
     obtain ⟨rfl, hP6, hm6⟩ := ht6
     have HM6 := Lib.hid (HM5.out.trans hm6)
     have HTO6 := HTO.out (a + 1 + 1 + 1) hk3 w6 hP6
     obtain ⟨qo, hqo⟩ : ∃ t, opB L [62] (a + 1 + 1 + 1) = t := ⟨_, rfl⟩
     unfold takeOpP at hR
     rw [hqo] at HTO6 hR
     have HTO6 := Lib.hid HTO6
     have HR5 := Lib.hid hR
     clear hR hqo hm6 hP6 HR4
     unfold ptV
     go_wp2_with fail
     refine HTO6.out.mono ?_; intro e w7 ht7
     cases qo with
     | false =>
      simp only [Bool.false_eq_true, if_false] at ht7
      have hR := HR5.out
      simp only [Bool.false_eq_true, if_false] at hR
      subst hR
      obtain ⟨rfl, hm⟩ := ht7
      go_wp2_with fail
      exact ⟨rfl, rfl, HM6.out.trans hm⟩
     | true =>
      simp only [if_true] at ht7
      have hR := HR5.out
      simp only [if_true] at hR
      subst hR
      obtain ⟨rfl, hP7, hm7⟩ := ht7
      go_wp2_with fail
      go_ret
      exact ⟨rfl, hP7, HM6.out.trans hm7⟩
end
end Pa
end Go.Proofs.YtbdgoimbddlcoaaGreatDoor
namespace Go.Proofs.YtbdgoimbddlcoaaGreatDoor
open Go.RowKit
namespace Pa
open Bs Sm Tr
open Lx (Mv)
abbrev MT : Nat := 28
section
variable {b : Nat} {L : List Pt} {tb tc : Nat} {bad : Int} {a d f : Nat} {w w' w0 : World}
theorem kwPat_round (hL : LOk L) {g k : Nat} {nm : Bs.Bytes} {ps : List Bs.Bytes} {R : PE (Bs.Bytes × List Bs.Bytes × Nat)} (hk : k < L.length) (hg : L.length - k < g) (h : kwPatP L bad g nm ps k = R) :
  (isK L 2 k = false → R = .ok (nm, ps, k)) ∧ (isK L 2 k = true → k + 1 < L.length ∧ (isK L 1 (k + 1) = false → R = .error (stopE L bad (k + 1))) ∧ (isK L 1 (k + 1) = true → k + 1 + 1 < L.length ∧ ∃ g', L.length - (k + 1 + 1) < g' ∧ kwPatP L bad g' (nm ++ (now L k).word) (ps ++ [(now L (k + 1)).word]) (k + 1 + 1) = R)) := by
 cases g with
 | zero => omega
 | succ g =>
  unfold kwPatP at h
  refine ⟨fun hq => ?_, fun hq => ?_⟩
  · rw [if_neg (by rw [hq]; simp)] at h; exact h.symm
  · rw [if_pos hq] at h
    have h1 := hL.next hq (by omega) hk
    unfold takeP at h
    refine ⟨h1, fun hr => ?_, fun hr => ?_⟩
    · rw [if_neg (by rw [hr]; simp)] at h; exact h.symm
    · rw [if_pos hr] at h
      exact ⟨hL.next hr (by omega) h1, g, by omega, h⟩
/-- A method's block: what pattern makes of it. -/
def PaO (b : Nat) (L : List Pt) (tb tc : Nat) (bad : Int) (d km : Nat) (at_ : Int) (x : PE (Bs.Bytes × List Bs.Bytes × Nat)) (w : World) (e : Ending) (w' : World) : Prop :=
 match x with
 | .error E => e = .panicked [{ v := fltP E.1 E.2, recovered := false }] ∧ But (fun j => j = b ∨ j = km) w w'
 | .ok (nm, ps, a) => e = .returned (.tuple #[]) ∧ Pr b L tb tc bad a d w' ∧ (∃ pa pc, Blk MT km #[.string ⟨nm.toArray⟩, .slice pa ps.length pc, .slice none 0 0, .int .i64 0, .slice none 0 0, .int .i64 at_] w' ∧ Rd (New w) strV w' (.slice pa ps.length pc) ps) ∧ But (fun j => j = b ∨ j = km) w w'
set_option maxRecDepth 100000 in
set_option maxHeartbeats 3200000 in
theorem pattern_any {km : Nat} (hL : LOk L) (hP : Pr b L tb tc bad 0 d w) (hm : Blk MT km #[.string ⟨#[]⟩, .slice none 0 0, .slice none 0 0, .int .i64 0, .slice none 0 0, .int .i64 0] w) (hkb : km ≠ b) (hkt : km ≠ tb) :
  Calls Tryz.prog 50 #[.pointer (some ⟨b, 0, none⟩), .pointer (some ⟨km, 0, none⟩)] w (PaO b L tb tc bad d km (now L 0).at_ (patP L bad) w) := by
 have hlen := hL.len
 have hbl := hP.blk.lt
 have htl := hP.lt
 have hkl := hm.lt
 have HN := fun w' (hb : Below w.heap.size w w') => now_any (hP.bel hb) hL.pos
 obtain ⟨R, hR⟩ : ∃ R, patP L bad = R := ⟨_, rfl⟩
 rw [hR]
 unfold patP isK at hR
 have hkn := fun (k : Int) (hk : 0 < k) (he : (now L 0).kind = k) => hL.next (k := k) (by simpa [isK] using he) hk hL.pos
 have HNX := fun (a' : Nat) (ha' : a' < L.length) (w' : World) (hp : Pr b L tb tc bad a' d w') => next_any hp ha' hlen
 have HTK := fun (a' : Nat) (ha' : a' < L.length) (w' : World) (hp : Pr b L tb tc bad a' d w') => take_any hp ha' hlen 1
 have HSP := fun (w' : World) (hp : Pr b L tb tc bad 0 d w') => stop_any hp hL.pos
 have HN2 := fun (w' : World) (hp : Pr b L tb tc bad 0 d w') => now_any hp hL.pos
 have HX1 := HNX 0 hL.pos
 obtain ⟨t, ht⟩ : ∃ t, now L 0 = t := ⟨_, rfl⟩
 rw [ht] at HN hR hkn HN2 HX1
 rw [ht]
 have HR := Lib.hid hR
 have HP := Lib.hid hP
 have HMB := Lib.hid hm
 replace HN := Lib.hid HN
 replace HN2 := Lib.hid HN2
 replace HNX := Lib.hid HNX
 replace HX1 := Lib.hid HX1
 replace HTK := Lib.hid HTK
 replace HSP := Lib.hid HSP
 have HL := Lib.hid hL
 have hkn := Lib.hid hkn
 have F0 := fld0
 have F1 := fld1
 have F3 := fld3
 clear hP hm hR ht hL
 unfold ptV at HN HN2
 by_cases h1 : t.kind = 1
 · have hd1 : (t.kind == 1) = true := by simp [h1]
   have hk1 := hkn.out 1 (by omega) h1
   clear h1
   have hR := HR.out
   rw [if_pos hd1] at hR
   subst hR
   go_enter Tryz.func50, Tryz.ntmps50
   go_wp2_with fail
   refine (HN.out w (Below.refl _ _)).mono ?_; rintro e w1 ⟨rfl, hb1⟩
   have hm1 := HMB.out.below hb1 hkl
   have e5 := hm1.c 5 _ rfl
   have e0 := hm1.c 0 _ rfl
   have ef := hm1.fz
   have hs1 := hb1.size
   obtain ⟨W2, hW2⟩ : ∃ W, w1.setCell ⟨km, 5, none⟩ (.int .i64 t.at_) = W := ⟨_, rfl⟩
   have hP2 : Pr b L tb tc bad 0 d W2 := by rw [← hW2]; exact (HP.out.bel hb1).far (Ne.symm hkb) (Ne.symm hkt) _
   have hm2 : Blk MT km #[.string ⟨#[]⟩, .slice none 0 0, .slice none 0 0, .int .i64 0, .slice none 0 0, .int .i64 t.at_] W2 := by rw [← hW2]; exact hm1.set_ 5 _ _ rfl
   have hB2 : But (fun j => j = b ∨ j = km) w W2 := by rw [← hW2]; exact (But.of hb1).set_ (k := km) (.inr rfl) 5 _
   have hs2 : W2.heap.size = w1.heap.size := by rw [← hW2]; simp [World.setCell]
   have HP2 := Lib.hid hP2
   have HM2 := Lib.hid hm2
   have HB2 := Lib.hid hB2
   clear hm1 hb1 hP2 hm2 hB2
   go_wp2_with fail
   refine (HN2.out W2 HP2.out).mono ?_; rintro e w3 ⟨rfl, hb3⟩
   clear e0 e5 ef hW2
   go_wp2_with fail
   refine (HX1.out w3 (HP2.out.bel hb3)).mono ?_; rintro e w4 ⟨rfl, hP4, hm4⟩
   have hmm : Blk MT km #[.string ⟨#[]⟩, .slice none 0 0, .slice none 0 0, .int .i64 0, .slice none 0 0, .int .i64 t.at_] w4 := (hm4.block _ (by have := hb3.size; omega) hkb).trans (HM2.out.below hb3 HM2.out.lt)
   have e0 := hmm.c 0 _ rfl
   have ef := hmm.fz
   have hB4 := (HB2.out.trans (But.of hb3)).trans (But.of_mv hm4 (.inl rfl))
   unfold ptV
   go_wp2_with fail
   go_end0
   refine ⟨rfl, hP4.far (Ne.symm hkb) (Ne.symm hkt) _, ⟨none, 0, hmm.set_ 0 _ _ rfl, rd_none _ _⟩, hB4.set_ (k := km) (.inr rfl) 0 _⟩
 have hd1 : (t.kind == 1) = false := by simp [h1]
 by_cases h6 : t.kind = 6
 · have hd6 : (t.kind == 6) = true := by simp [h6]
   have hk1 := hkn.out 6 (by omega) h6
   clear h6 h1
   have hR := HR.out
   rw [if_neg (by rw [hd1]; simp), if_pos hd6] at hR
   obtain ⟨q, hq⟩ : ∃ t, isK L 1 1 = t := ⟨_, rfl⟩
   obtain ⟨u, hu⟩ : ∃ t, now L 1 = t := ⟨_, rfl⟩
   have HT1 := HTK.out 1 hk1
   unfold takeP at hR
   rw [hq, hu] at hR HT1
   replace HT1 := Lib.hid HT1
   replace HR := Lib.hid hR
   clear hR hq hu
   go_enter Tryz.func50, Tryz.ntmps50
   go_wp2_with fail
   refine (HN.out w (Below.refl _ _)).mono ?_; rintro e w1 ⟨rfl, hb1⟩
   have hm1 := HMB.out.below hb1 hkl
   have e5 := hm1.c 5 _ rfl
   have e0 := hm1.c 0 _ rfl
   have ef := hm1.fz
   have hs1 := hb1.size
   obtain ⟨W2, hW2⟩ : ∃ W, w1.setCell ⟨km, 5, none⟩ (.int .i64 t.at_) = W := ⟨_, rfl⟩
   have hP2 : Pr b L tb tc bad 0 d W2 := by rw [← hW2]; exact (HP.out.bel hb1).far (Ne.symm hkb) (Ne.symm hkt) _
   have hm2 : Blk MT km #[.string ⟨#[]⟩, .slice none 0 0, .slice none 0 0, .int .i64 0, .slice none 0 0, .int .i64 t.at_] W2 := by rw [← hW2]; exact hm1.set_ 5 _ _ rfl
   have hB2 : But (fun j => j = b ∨ j = km) w W2 := by rw [← hW2]; exact (But.of hb1).set_ (k := km) (.inr rfl) 5 _
   have hs2 : W2.heap.size = w1.heap.size := by rw [← hW2]; simp [World.setCell]
   have HP2 := Lib.hid hP2
   have HM2 := Lib.hid hm2
   have HB2 := Lib.hid hB2
   clear hm1 hb1 hP2 hm2 hB2
   go_wp2_with fail
   refine (HN2.out W2 HP2.out).mono ?_; rintro e w3 ⟨rfl, hb3⟩
   clear e0 e5 ef hW2
   go_wp2_with fail
   refine (HX1.out w3 (HP2.out.bel hb3)).mono ?_; rintro e w4 ⟨rfl, hP4, hm4⟩
   have hs4 := hm4.size
   have hs3 := hb3.size
   have hmm : Blk MT km #[.string ⟨#[]⟩, .slice none 0 0, .slice none 0 0, .int .i64 0, .slice none 0 0, .int .i64 t.at_] w4 := (hm4.block _ (by omega) hkb).trans (HM2.out.below hb3 HM2.out.lt)
   have e0 := hmm.c 0 _ rfl
   have ef := hmm.fz
   have hB4 := (HB2.out.trans (But.of hb3)).trans (But.of_mv hm4 (.inl rfl))
   obtain ⟨W5, hW5⟩ : ∃ W, w4.setCell ⟨km, 0, none⟩ (.string ⟨t.word.toArray⟩) = W := ⟨_, rfl⟩
   have hP5 : Pr b L tb tc bad 1 d W5 := by rw [← hW5]; exact hP4.far (Ne.symm hkb) (Ne.symm hkt) _
   have hm5 : Blk MT km #[.string ⟨t.word.toArray⟩, .slice none 0 0, .slice none 0 0, .int .i64 0, .slice none 0 0, .int .i64 t.at_] W5 := by rw [← hW5]; exact hmm.set_ 0 _ _ rfl
   have hB5 : But (fun j => j = b ∨ j = km) w W5 := by rw [← hW5]; exact hB4.set_ (k := km) (.inr rfl) 0 _
   have hs5 : W5.heap.size = w4.heap.size := by rw [← hW5]; simp [World.setCell]
   have HP5 := Lib.hid hP5
   have HM5 := Lib.hid hm5
   have HB5 := Lib.hid hB5
   clear hmm hB4 hP5 hm5 hB5 hP4 hm4 hb3
   unfold ptV
   go_wp2_with fail
   refine (HT1.out W5 HP5.out).mono ?_; intro e w6 ht6
   clear e0 ef hW5
   cases q with
   | false =>
    simp only [Bool.false_eq_true, if_false] at ht6
    have hR := HR.out
    simp only [Bool.false_eq_true, if_false, bind, Except.bind] at hR
    subst hR
    obtain ⟨rfl, hm⟩ := ht6
    go_wp2_with fail
    exact ⟨rfl, rfl, HB5.out.trans (But.of_mv hm (.inl rfl))⟩
   | true =>
    simp only [if_true] at ht6
    have hR := HR.out
    simp only [if_true, bind, Except.bind] at hR
    subst hR
    obtain ⟨rfl, hP6, hm6⟩ := ht6
    have hs6 := hm6.size
    have hmm : Blk MT km #[.string ⟨t.word.toArray⟩, .slice none 0 0, .slice none 0 0, .int .i64 0, .slice none 0 0, .int .i64 t.at_] w6 := (hm6.block _ (by omega) hkb).trans HM5.out
    have hB6 := HB5.out.trans (But.of_mv hm6 (.inl rfl))
    have hbbA := alloc_bel w6 (.cells #[.string ⟨u.word.toArray⟩] 9)
    have hMkA := Blk.made (T := 9) (cs := #[.string ⟨u.word.toArray⟩]) w6
    have hszA : (w6.alloc (.cells #[.string ⟨u.word.toArray⟩] 9)).heap.size = w6.heap.size + 1 := by simp
    have hP7 := hP6.bel hbbA
    have hm7 := hmm.alloc (.cells #[.string ⟨u.word.toArray⟩] 9)
    have hB7 := hB6.alloc (.cells #[.string ⟨u.word.toArray⟩] 9)
    obtain ⟨W7, halA⟩ : ∃ W, w6.alloc (.cells #[.string ⟨u.word.toArray⟩] 9) = W := ⟨_, rfl⟩
    rw [halA] at hMkA hszA hP7 hm7 hB7
    clear hbbA
    have e1 := hm7.c 1 _ rfl
    have ef := hm7.fz
    have hRd : Rd (New w) strV W7 (.slice (some ⟨w6.heap.size, 0, none⟩) 1 1) [u.word] := by
     have h := World.ownsRow_lit (base := w6.heap.size) (e := 9) (size := 1) w6 #[.string ⟨u.word.toArray⟩] 1 (Nat.le_refl _) (by unfold maxLen; omega) rfl
     rw [halA] at h
     have h2 := Rd.of (f := strV) (l := [u.word]) h
     exact h2.mono (fun j hj _ => by unfold New; omega)
    have HP7 := Lib.hid hP7
    have HM7 := Lib.hid hm7
    have HB7 := Lib.hid hB7
    have HRd := Lib.hid hRd
    clear hP6 hm6 hmm hB6 hP7 hm7 hB7 hRd hMkA
    unfold ptV
    go_wp2_with fail
    go_end0
    exact ⟨rfl, HP7.out.far (Ne.symm hkb) (Ne.symm hkt) _, ⟨_, _, HM7.out.set_ 1 _ _ rfl, HRd.out.kp (kp_set 1 (by unfold New; omega) _)⟩, HB7.out.set_ (k := km) (.inr rfl) 1 _⟩
 have hd6 : (t.kind == 6) = false := by simp [h6]
 by_cases h2 : t.kind = 2
 · have hd2 : (t.kind == 2) = true := by simp [h2]
   clear h1 h2 h6
   have hR := HR.out
   rw [if_neg (by rw [hd1]; simp), if_neg (by rw [hd6]; simp), if_pos hd2] at hR
   have HRK := Lib.hid hR
   clear hR
   obtain ⟨iI, hiI, hI0, hI1, hI2⟩ := info_parts (show (Tryz.prog.info? 9).map (fun i => (i.zero, i.size, i.bytes)) = some (some (.string ⟨#[]⟩), 1, 16) by kernel_rfl)
   have tI : Tryz.prog.underlying 25 = some (.slice 9) := by kernel_rfl
   go_enter Tryz.func50, Tryz.ntmps50
   go_wp2_with fail
   refine (HN.out w (Below.refl _ _)).mono ?_; rintro e w1 ⟨rfl, hb1⟩
   have hm1 := HMB.out.below hb1 hkl
   have e5 := hm1.c 5 _ rfl
   have e0 := hm1.c 0 _ rfl
   have ef := hm1.fz
   have hs1 := hb1.size
   obtain ⟨W2, hW2⟩ : ∃ W, w1.setCell ⟨km, 5, none⟩ (.int .i64 t.at_) = W := ⟨_, rfl⟩
   have hP2 : Pr b L tb tc bad 0 d W2 := by rw [← hW2]; exact (HP.out.bel hb1).far (Ne.symm hkb) (Ne.symm hkt) _
   have hm2 : Blk MT km #[.string ⟨#[]⟩, .slice none 0 0, .slice none 0 0, .int .i64 0, .slice none 0 0, .int .i64 t.at_] W2 := by rw [← hW2]; exact hm1.set_ 5 _ _ rfl
   have hB2 : But (fun j => j = b ∨ j = km) w W2 := by rw [← hW2]; exact (But.of hb1).set_ (k := km) (.inr rfl) 5 _
   have hs2 : W2.heap.size = w1.heap.size := by rw [← hW2]; simp [World.setCell]
   have HP2 := Lib.hid hP2
   have HM2 := Lib.hid hm2
   have HB2 := Lib.hid hB2
   clear hm1 hb1 hP2 hm2 hB2
   go_wp2_with fail
   refine (HN2.out W2 HP2.out).mono ?_; rintro e w3 ⟨rfl, hb3⟩
   clear e0 e5 ef hW2
   go_wp2_with fail
   have HPc := Lib.hid (HP2.out.bel hb3)
   have HMc := Lib.hid (HM2.out.below hb3 HM2.out.lt)
   have HBc := Lib.hid (HB2.out.trans (But.of hb3))
   clear hb3 HP2 HM2 HB2
   go_loopw [] (fun wr => ∃ (k g : Nat) (nm : Bs.Bytes) (ps : List Bs.Bytes) (pa : Option Addr) (pq : Nat), k < L.length ∧ ps.length ≤ k ∧ nm.length ≤ k * 4096 ∧ L.length - k < g ∧ Hid (kwPatP L bad g nm ps k = R) ∧ Hid (wr.ownsRow w.heap.size 9 1 (.slice pa ps.length pq) ps.length (ps.map strV)) ∧ Hid (Blk MT km #[.string ⟨nm.toArray⟩, .slice pa ps.length pq, .slice none 0 0, .int .i64 0, .slice none 0 0, .int .i64 t.at_] wr) ∧ Hid (Pr b L tb tc bad k d wr) ∧ Hid (But (fun j => j = b ∨ j = km) w wr)) (fun wr => L.length - atP b wr)
   case atStart => exact ⟨0, L.length + 1, [], [], none, 0, HL.out.pos, Nat.le_refl _, by simp, by omega, HRK, Lib.hid (World.ownsRow_nil _ _ _ _), HMc, HPc, HBc⟩
   case round =>
    obtain ⟨k, g, nm, ps, pa, pq, hk, hpk, hnm, hg, HEk, HOw, HKk, HPk, HBt⟩ := hrel
    have hatk := HPk.out.at_
    have hrd := kwPat_round HL.out hk hg HEk.out
    have HI := Lib.hid (is_any HPk.out hk 2)
    obtain ⟨q, hq⟩ : ∃ t, isK L 2 k = t := ⟨_, rfl⟩
    obtain ⟨v, hv⟩ : ∃ t, now L k = t := ⟨_, rfl⟩
    obtain ⟨u, hu⟩ : ∃ t, now L (k + 1) = t := ⟨_, rfl⟩
    obtain ⟨r, hr⟩ : ∃ t, isK L 1 (k + 1) = t := ⟨_, rfl⟩
    have hvw : v.word.length ≤ 4096 := by rw [← hv]; exact HL.out.word _ hk
    have HNXk := HNX.out k hk
    have HTKk := HTK.out (k + 1)
    rw [hq, hv, hu, hr] at hrd
    rw [hq] at HI
    rw [hv] at HNXk
    rw [hu, hr] at HTKk
    replace HNXk := Lib.hid HNXk
    replace HTKk := Lib.hid HTKk
    have HRD := Lib.hid hrd
    have hsr := HBt.out.size
    clear hrd hq hv hu hr HEk HPc HMc HBc HRK
    go_wp2_with fail
    refine HI.out.mono ?_; rintro e w6 ⟨rfl, hb6⟩
    have hs6 := hb6.size
    have hP6 := HPk.out.bel hb6
    have hK6 := HKk.out.below hb6 HKk.out.lt
    have hO6 := own_below HOw.out hb6
    have hB6 := HBt.out.trans (But.of hb6)
    cases q with
    | false =>
     have hEE := HRD.out.1 (by first | rfl | trivial)
     subst hEE
     go_wp2_with fail
     go_end0
     exact ⟨rfl, hP6, ⟨_, _, hK6, (Rd.of hO6)⟩, hB6⟩
    | true =>
     obtain ⟨hk2, hA, hB⟩ := HRD.out.2 (by first | rfl | trivial)
     have HA := Lib.hid hA
     have HBq := Lib.hid hB
     have HX6 := Lib.hid (HNXk.out w6.drew hP6.drew)
     have HK6 := Lib.hid hK6
     have HO6 := Lib.hid hO6
     have HB6 := Lib.hid hB6
     clear HRD hA hB hP6 hK6 hO6 hB6 HOw HKk HPk HBt hb6
     go_wp2_with fail
     have hS : ∀ v, Blk MT km #[.string ⟨nm.toArray⟩, .slice pa ps.length pq, .slice none 0 0, .int .i64 0, .slice none 0 0, .int .i64 t.at_] v → v.cell? ⟨km, 0, none⟩ = some (.string ⟨nm.toArray⟩) := fun v hv => hv.c 0 _ rfl
     refine region_pk (fun c a a' w h hq => (show a.defers = [] ∧ _ from ⟨h ▸ (show a'.defers = [] ∧ _ from hq).1, (show a'.defers = [] ∧ _ from hq).2⟩)) (fun HPQ => ?_)
     refine Hd.start (fun v => v.cell? ⟨km, 0, none⟩ = some (.string ⟨nm.toArray⟩)) (by kernel_rfl) (hS _ (HK6.out.drewN 1)) (fun hH0 => ?_)
     refine Hd.tk 0 1 hH0 ?_ (hQ := fun c a w h => HPQ c _ _ w (put_defers a _ _) h)
     refine Hd.tk 1 2 hH0 ?_ (hQ := fun c a w h => HPQ c _ _ w (put_defers a _ _) h)
     refine Hd.tk 2 3 hH0 ?_ (hQ := fun c a w h => HPQ c _ _ w (put_defers a _ _) h)
     refine Hd.tk 3 7 hH0 ?_ (hQ := fun c a w h => HPQ c _ _ w (put_defers a _ _) h)
     refine Hd.tk 4 5 hH0 ?_ (hQ := fun c a w h => HPQ c _ _ w (put_defers a _ _) h)
     refine Hd.on 5 (fun K hK => ?_)
     go_simp
     refine HX6.out.mono ?_; rintro e w7 ⟨rfl, hP7, hm7⟩
     have hs7 : w6.heap.size ≤ w7.heap.size := hm7.size
     have hK7 : Blk MT km #[.string ⟨nm.toArray⟩, .slice pa ps.length pq, .slice none 0 0, .int .i64 0, .slice none 0 0, .int .i64 t.at_] w7 := (hm7.block _ (show km < w6.heap.size by omega) hkb).trans HK6.out
     have hO7 := own_mv (w := w6.drew) HO6.out hm7 hbl
     have hB7 := (But.drew HB6.out).trans (But.of_mv hm7 (.inl rfl))
     have HK7 := Lib.hid hK7
     have HO7 := Lib.hid hO7
     have HB7 := Lib.hid hB7
     have HP7 := Lib.hid hP7
     clear hP7 hm7 hK7 hO7 hB7 HX6 HK6 HO6 HB6
     unfold ptV
     go_simp
     refine hK.out _ _ (hS _ HK7.out) (fun hH1 => ?_)
     clear hK K
     try simp only [Act.put, Hd.sa, Hd.sz, Hd.ss]
     refine Hd.tk 6 7 hH1 ?_ (hQ := fun c a w h => HPQ c _ _ w (put_defers a _ _) h)
     refine Hd.take 7 10 (oi := ?_) (v := ?_) ?_ (by kernel_rfl) (fun c a w h => HPQ c _ _ w (put_defers a _ _) h) hH1 ?_ ?_ ?_
     rotate_left 2
     · simp only [Hd.ga, Hd.gs, Hd.gz]
       exact rfl
     · rfl
     · intro w hSw
       (try dsimp only at hSw)
       go_simp
       rw [if_neg (by (try simp only [List.length_append, List.length_cons, List.length_nil]); omega)]
     try simp only [Act.put, Hd.sa, Hd.sz, Hd.ss]
     refine Hd.tk 8 9 hH1 ?_ (hQ := fun c a w h => HPQ c _ _ w (put_defers a _ _) h)
     refine Hd.tk 9 10 hH1 ?_ (hQ := fun c a w h => HPQ c _ _ w (put_defers a _ _) h)
     have e0 := HK7.out.c 0 _ rfl
     have ef := HK7.out.fz
     refine Hd.la 10 (fun K hK => ?_)
     go_simp
     refine hK.out _ _ ?_
     clear hK K
     try simp only [Act.put, Hd.sa, Hd.sz, Hd.ss]
     obtain ⟨W8, hW8⟩ : ∃ W, w7.setCell ⟨km, 0, none⟩ (.string ⟨(nm ++ v.word).toArray⟩) = W := ⟨_, rfl⟩
     have hcat : w7.setCell ⟨km, 0, none⟩ (.string (⟨nm.toArray⟩ ++ ⟨v.word.toArray⟩)) = W8 := by rw [← hW8]; congr 2
     rw [hcat]
     have hP8 : Pr b L tb tc bad (k + 1) d W8 := by rw [← hW8]; exact HP7.out.far (Ne.symm hkb) (Ne.symm hkt) _
     have hK8 : Blk MT km #[.string ⟨(nm ++ v.word).toArray⟩, .slice pa ps.length pq, .slice none 0 0, .int .i64 0, .slice none 0 0, .int .i64 t.at_] W8 := by rw [← hW8]; exact HK7.out.set_ 0 _ _ rfl
     have hO8 : W8.ownsRow w.heap.size 9 1 (.slice pa ps.length pq) ps.length (ps.map strV) := by rw [← hW8]; exact ownsRow_setCell_below HO7.out hkl _
     have hB8 : But (fun j => j = b ∨ j = km) w W8 := by rw [← hW8]; exact HB7.out.set_ (k := km) (.inr rfl) 0 _
     have hs8 : W8.heap.size = w7.heap.size := by rw [← hW8]; simp [World.setCell]
     have HX8 := Lib.hid (HTKk.out hk2 W8.drew hP8.drew)
     have HK8 := Lib.hid hK8
     have HO8 := Lib.hid hO8
     have HB8 := Lib.hid hB8
     clear hP8 hK8 hO8 hB8 hW8 hcat HK7 HO7 HB7 HP7 e0 ef
     go_wp2_with fail
     have hS2 : ∀ v', Blk MT km #[.string ⟨(nm ++ v.word).toArray⟩, .slice pa ps.length pq, .slice none 0 0, .int .i64 0, .slice none 0 0, .int .i64 t.at_] v' → v'.cell? ⟨km, 1, none⟩ = some (.slice pa ps.length pq) := fun v' hv => hv.c 1 _ rfl
     refine region_pk (fun c a a' w h hq => (show a.defers = [] ∧ _ from ⟨h ▸ (show a'.defers = [] ∧ _ from hq).1, (show a'.defers = [] ∧ _ from hq).2⟩)) (fun HPQ => ?_)
     refine Hd.start (fun v => v.cell? ⟨km, 1, none⟩ = some (.slice pa ps.length pq)) (by kernel_rfl) (hS2 _ (HK8.out.drewN 1)) (fun hH0 => ?_)
     refine Hd.tk 0 10 hH0 ?_ (hQ := fun c a w h => HPQ c _ _ w (put_defers a _ _) h)
     refine Hd.tk 1 2 hH0 ?_ (hQ := fun c a w h => HPQ c _ _ w (put_defers a _ _) h)
     refine Hd.tk 2 3 hH0 ?_ (hQ := fun c a w h => HPQ c _ _ w (put_defers a _ _) h)
     refine Hd.tk 3 4 hH0 ?_ (hQ := fun c a w h => HPQ c _ _ w (put_defers a _ _) h)
     refine Hd.tk 4 9 hH0 ?_ (hQ := fun c a w h => HPQ c _ _ w (put_defers a _ _) h)
     refine Hd.tk 5 6 hH0 ?_ (hQ := fun c a w h => HPQ c _ _ w (put_defers a _ _) h)
     refine Hd.on 6 (fun K hK => ?_)
     go_simp
     refine HX8.out.mono ?_; intro e w9 ht9
     cases r with
     | false =>
      simp only [Bool.false_eq_true, if_false] at ht9
      obtain ⟨rfl, hm⟩ := ht9
      have hE := HA.out (by first | rfl | trivial)
      subst hE
      go_simp
      exact ⟨rfl, rfl, (But.drew HB8.out).trans (But.of_mv hm (.inl rfl))⟩
     | true =>
      simp only [if_true] at ht9
      obtain ⟨rfl, hP9, hm9⟩ := ht9
      obtain ⟨hk3, g', hg', hE'⟩ := HBq.out (by first | rfl | trivial)
      have HE' := Lib.hid hE'
      have hs9 : W8.heap.size ≤ w9.heap.size := hm9.size
      have hK9 : Blk MT km #[.string ⟨(nm ++ v.word).toArray⟩, .slice pa ps.length pq, .slice none 0 0, .int .i64 0, .slice none 0 0, .int .i64 t.at_] w9 := (hm9.block _ (show km < W8.heap.size by omega) hkb).trans HK8.out
      have hO9 := own_mv (w := W8.drew) HO8.out hm9 hbl
      have hB9 := (But.drew HB8.out).trans (But.of_mv hm9 (.inl rfl))
      have HK9 := Lib.hid hK9
      have HO9 := Lib.hid hO9
      have HB9 := Lib.hid hB9
      have HP9 := Lib.hid hP9
      clear hE' hP9 hm9 hK9 hO9 hB9 HX8 HK8 HO8 HB8 HA HBq
      unfold ptV
      go_simp
      refine hK.out _ _ (hS2 _ HK9.out) (fun hH1 => ?_)
      clear hK K
      try simp only [Act.put, Hd.sa, Hd.sz, Hd.ss]
      refine Hd.tk 7 8 hH1 ?_ (hQ := fun c a w h => HPQ c _ _ w (put_defers a _ _) h)
      have hP9 := HP9.out
      have hK9 := HK9.out
      have hB9 := HB9.out.alloc (.cells #[.string ⟨u.word.toArray⟩] 9)
      have hO9 := own_below HO9.out (alloc_bel w9 (.cells #[.string ⟨u.word.toArray⟩] 9))
      have hbbB := alloc_bel w9 (.cells #[.string ⟨u.word.toArray⟩] 9)
      have hMkB := Blk.made (T := 9) (cs := #[.string ⟨u.word.toArray⟩]) w9
      have hszB : (w9.alloc (.cells #[.string ⟨u.word.toArray⟩] 9)).heap.size = w9.heap.size + 1 := by simp
      have hP10 := hP9.bel hbbB
      have hK10 := hK9.alloc (.cells #[.string ⟨u.word.toArray⟩] 9)
      obtain ⟨W10, halB⟩ : ∃ W, w9.alloc (.cells #[.string ⟨u.word.toArray⟩] 9) = W := ⟨_, rfl⟩
      rw [halB] at hMkB hszB hP10 hK10
      clear hbbB
      rw [halB] at hB9 hO9
      have hnews := World.news_of_block hMkB
      have HP10 := Lib.hid hP10
      have HK10 := Lib.hid hK10
      have HB10 := Lib.hid hB9
      have HO10 := Lib.hid hO9
      have HNEWS := Lib.hid hnews
      clear hP9 hK9 hB9 hO9 hP10 hK10 hnews hMkB HP9 HK9 HB9 HO9
      refine Hd.on 8 (fun K hK => ?_)
      go_simp
      refine hK.out _ _ (hS2 _ HK10.out) (fun hH2 => ?_)
      clear hK K
      try simp only [Act.put, Hd.sa, Hd.sz, Hd.ss]
      refine Hd.on 9 (fun K hK => ?_)
      refine step_append_lies _ rfl (.tmp 56) (.tmp 60) 25 rfl w.heap.size 9 iI (.string ⟨#[]⟩) 1 16 tI hiI hI0 hI1 hI2 rfl (by decide) _ ps.length (ps.map strV) (by simp [Act.eval]) HO10.out ⟨w9.heap.size, 0, none⟩ 1 1 [.string ⟨u.word.toArray⟩] (by simp [Act.eval]) rfl HNEWS.out (fun x hx => by simp at hx; subst hx; rfl) (by decide) (by unfold maxLen; omega) (by omega) (by omega) _ rfl ?_
      intro gb cap w11 hown11 hgrow11 hat11 hlt11
      have hs11 := hgrow11.size
      have hob : ∀ j, (Value.slice pa ps.length pq).ownBlock = some j → w.heap.size ≤ j := fun j hj => (HO10.out.lt j hj).1
      have hP11 := HP10.out.grown hgrow11 (fun h => by have := hob _ h; omega) (fun h => by have := hob _ h; omega)
      have hK11 : Blk MT km #[.string ⟨(nm ++ v.word).toArray⟩, .slice pa ps.length pq, .slice none 0 0, .int .i64 0, .slice none 0 0, .int .i64 t.at_] w11 := (hgrow11.block _ (by omega) (fun h => by have := hob _ h.symm; omega)).trans HK10.out
      have hB11 := But.grown HB10.out hgrow11 hob
      have e1 := hK11.c 1 _ rfl
      have ef := hK11.fz
      have HP11 := Lib.hid hP11
      have HK11 := Lib.hid hK11
      have HB11 := Lib.hid hB11
      have HO11 := Lib.hid hown11
      clear hown11 hgrow11 hat11 hob hP11 hK11 hB11 HP10 HK10 HB10 HO10 HNEWS halB
      refine hK.out _ _ (hS2 _ HK11.out) (fun hH3 => ?_)
      clear hK K
      try simp only [Act.put, Hd.sa, Hd.sz, Hd.ss]
      refine Hd.tk 10 11 hH3 ?_ (hQ := fun c a w h => HPQ c _ _ w (put_defers a _ _) h)
      refine Hd.tk 11 12 hH3 ?_ (hQ := fun c a w h => HPQ c _ _ w (put_defers a _ _) h)
      refine Hd.la 12 (fun K hK => ?_)
      go_simp
      refine hK.out _ _ ?_
      clear hK K
      try simp only [Act.put, Hd.sa, Hd.sz, Hd.ss]
      go_wp2_with fail
      have hlo : (ps ++ [u.word]).length = ps.length + 1 := by simp
      have hPf := HP11.out.far (p := ⟨km, 1, none⟩) (show b ≠ km from Ne.symm hkb) (show tb ≠ km from Ne.symm hkt) (.slice (some ⟨gb, 0, none⟩) (ps.length + 1) cap)
      refine ⟨⟨k + 1 + 1, g', nm ++ v.word, ps ++ [u.word], some ⟨gb, 0, none⟩, cap, hk3, by rw [hlo]; omega, by rw [List.length_append]; omega, hg', HE', Lib.hid ?_, Lib.hid (by rw [hlo]; exact HK11.out.set_ 1 _ _ rfl), Lib.hid hPf, Lib.hid (HB11.out.set_ (k := km) (.inr rfl) 1 _)⟩, ?_⟩
      · rw [hlo, List.map_append]
        exact ownsRow_setCell_below HO11.out hkl _
      · rw [hPf.at_]; omega
 have hd2 : (t.kind == 2) = false := by simp [h2]
 clear h1 h2 h6
 have hR := HR.out
 rw [if_neg (by rw [hd1]; simp), if_neg (by rw [hd6]; simp), if_neg (by rw [hd2]; simp)] at hR
 subst hR
 go_enter Tryz.func50, Tryz.ntmps50
 go_wp2_with fail
 refine (HN.out w (Below.refl _ _)).mono ?_; rintro e w1 ⟨rfl, hb1⟩
 have hm1 := HMB.out.below hb1 hkl
 have e5 := hm1.c 5 _ rfl
 have e0 := hm1.c 0 _ rfl
 have ef := hm1.fz
 have hs1 := hb1.size
 obtain ⟨W2, hW2⟩ : ∃ W, w1.setCell ⟨km, 5, none⟩ (.int .i64 t.at_) = W := ⟨_, rfl⟩
 have hP2 : Pr b L tb tc bad 0 d W2 := by rw [← hW2]; exact (HP.out.bel hb1).far (Ne.symm hkb) (Ne.symm hkt) _
 have hm2 : Blk MT km #[.string ⟨#[]⟩, .slice none 0 0, .slice none 0 0, .int .i64 0, .slice none 0 0, .int .i64 t.at_] W2 := by rw [← hW2]; exact hm1.set_ 5 _ _ rfl
 have hB2 : But (fun j => j = b ∨ j = km) w W2 := by rw [← hW2]; exact (But.of hb1).set_ (k := km) (.inr rfl) 5 _
 have hs2 : W2.heap.size = w1.heap.size := by rw [← hW2]; simp [World.setCell]
 have HP2 := Lib.hid hP2
 have HM2 := Lib.hid hm2
 have HB2 := Lib.hid hB2
 clear hm1 hb1 hP2 hm2 hB2
 go_wp2_with fail
 refine (HN2.out W2 HP2.out).mono ?_; rintro e w3 ⟨rfl, hb3⟩
 clear e0 e5 ef hW2
 go_wp2_with fail
 refine (HSP.out w3 (HP2.out.bel hb3)).mono ?_; rintro e w4 ⟨rfl, hm4⟩
 go_wp2_with fail
 exact ⟨rfl, rfl, (HB2.out.trans (But.of hb3)).trans (But.of_mv hm4 (.inl rfl))⟩
end
end Pa
end Go.Proofs.YtbdgoimbddlcoaaGreatDoor
