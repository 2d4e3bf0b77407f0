/- Package parse, the walk, 22: primitive. · Package parse, the walk, 23: pattern. · Package parse, the walk, 24: method (wip/gen/gen_paw24.py prints this). · Package parse, the walk, 25: scan (wip/gen/gen_paw25.py prints this). -/
import Derived.Test.YtmmgfifpjifjnaaGreatDoorPaX4
import Derived.Test.YtmmgfifpjifjnaaGreatDoorTrC
set_option linter.unusedVariables false
namespace Go.Proofs.YtmmgfifpjifjnaaGreatDoor
open Go.RowKit
namespace Pa
open Bs Sm Tr
open Lx (Mv)
section
variable {b : Nat} {L : List Pt} {tb tc : Nat} {bad : Int} {a d f : Nat} {w w' w0 : World}
def InO (b : Nat) (L : List Pt) (tb tc : Nat) (bad : Int) (d : Nat) (x : PE (Int × Nat)) (w : World) (e : Ending) (w' : World) : Prop :=
 match x with
 | .error E => Fel b E w e w'
 | .ok (n, a) => Trn b L tb tc bad a d (.int .i64 n) w e w'
set_option maxRecDepth 100000 in
set_option maxHeartbeats 3200000 in
theorem primitive_any (hL : LOk L) (hP : Pr b L tb tc bad a d w) (ha : a < L.length) :
  Calls Tryz.prog 62 #[.pointer (some ⟨b, 0, none⟩)] w (InO b L tb tc bad d (primNP L bad a) w) := by
 have hlen := hL.len
 have hbl := hP.blk.lt
 have HO := Lib.hid (op_any hP ha [60])
 obtain ⟨R, hR⟩ : ∃ R, primNP L bad a = R := ⟨_, rfl⟩
 rw [hR]
 unfold primNP at hR
 obtain ⟨q, hq⟩ : ∃ t, opB L [60] a = t := ⟨_, rfl⟩
 have hk1f : q = true → a + 1 < L.length := fun h => hL.next (opB_k (hq.trans h)) (by omega) ha
 rw [hq] at HO hR
 cases q with
 | false =>
  rw [if_neg (by simp)] at hR
  subst hR
  have HP := Lib.hid hP
  clear hP hL hq
  go_enter Tryz.func62, Tryz.ntmps62
  go_wp2_with fail
  refine HO.out.mono ?_; rintro e w1 ⟨rfl, hb⟩
  go_wp2_with fail
  go_ret
  exact ⟨rfl, HP.out.bel hb, Mv.of_bel hb⟩
 | true =>
  have h := (hL.pl a ha).2.2.2.1
  rw [hq] at h
  cases h
end
end Pa
end Go.Proofs.YtmmgfifpjifjnaaGreatDoor
namespace Go.Proofs.YtmmgfifpjifjnaaGreatDoor
open Go.RowKit
namespace Pa
open Bs Sm Tr
open Lx (Mv)
abbrev MT : Nat := 33
section
variable {b : Nat} {L : List Pt} {tb tc : Nat} {bad : Int} {a d f : Nat} {w w' w0 : World}
theorem kwPat_round (hL : LOk L) {g k : Nat} {nm : Bs.Bytes} {ps : List Bs.Bytes} {R : PE (Bs.Bytes × List Bs.Bytes × Nat)} (hk : k < L.length) (hg : L.length - k < g) (h : kwPatP L bad g nm ps k = R) :
  (isK L 2 k = false → R = .ok (nm, ps, k)) ∧ (isK L 2 k = true → k + 1 < L.length ∧ (isK L 1 (k + 1) = false → R = .error (stopE L bad (k + 1))) ∧ (isK L 1 (k + 1) = true → k + 1 + 1 < L.length ∧ ∃ g', L.length - (k + 1 + 1) < g' ∧ kwPatP L bad g' (nm ++ (now L k).word) (ps ++ [(now L (k + 1)).word]) (k + 1 + 1) = R)) := by
 cases g with
 | zero => omega
 | succ g =>
  unfold kwPatP at h
  refine ⟨fun hq => ?_, fun hq => ?_⟩
  · rw [if_neg (by rw [hq]; simp)] at h; exact h.symm
  rw [if_pos hq] at h
  have h1 := hL.next hq (by omega) hk
  unfold takeP at h
  refine ⟨h1, fun hr => ?_, fun hr => ?_⟩
  · rw [if_neg (by rw [hr]; simp)] at h; exact h.symm
  rw [if_pos hr] at h
  exact ⟨hL.next hr (by omega) h1, g, by omega, h⟩
def PaO (b : Nat) (L : List Pt) (tb tc : Nat) (bad : Int) (d km : Nat) (at_ : Int) (x : PE (Bs.Bytes × List Bs.Bytes × Nat)) (w : World) (e : Ending) (w' : World) : Prop :=
 match x with
 | .error E => e = .panicked [{ v := fltP E.1 E.2, recovered := false }] ∧ But (fun j => j = b ∨ j = km) w w'
 | .ok (nm, ps, a) => e = .returned (.tuple #[]) ∧ Pr b L tb tc bad a d w' ∧ (∃ pa pc, Blk MT km #[.string ⟨nm.toArray⟩, .slice pa ps.length pc, .slice none 0 0, .int .i64 0, .slice none 0 0, .int .i64 at_] w' ∧ Rd (New w) strV w' (.slice pa ps.length pc) ps) ∧ But (fun j => j = b ∨ j = km) w w'
set_option maxRecDepth 100000 in
set_option maxHeartbeats 3200000 in
theorem pattern_any {km : Nat} (hL : LOk L) (hP : Pr b L tb tc bad 0 d w) (hm : Blk MT km #[.string ⟨#[]⟩, .slice none 0 0, .slice none 0 0, .int .i64 0, .slice none 0 0, .int .i64 0] w) (hkb : km ≠ b) (hkt : km ≠ tb) :
  Calls Tryz.prog 61 #[.pointer (some ⟨b, 0, none⟩), .pointer (some ⟨km, 0, none⟩)] w (PaO b L tb tc bad d km (now L 0).at_ (patP L bad) w) := by
 have hlen := hL.len
 have hbl := hP.blk.lt
 have htl := hP.lt
 have hkl := hm.lt
 have HN := fun w' (hb : Below w.heap.size w w') => now_any (hP.bel hb) hL.pos
 obtain ⟨R, hR⟩ : ∃ R, patP L bad = R := ⟨_, rfl⟩
 rw [hR]
 unfold patP isK at hR
 have hkn := fun (k : Int) (hk : 0 < k) (he : (now L 0).kind = k) => hL.next (k := k) (by simpa [isK] using he) hk hL.pos
 have HNX := fun (a' : Nat) (ha' : a' < L.length) (w' : World) (hp : Pr b L tb tc bad a' d w') => next_any hp ha' hlen
 have HTK := fun (a' : Nat) (ha' : a' < L.length) (w' : World) (hp : Pr b L tb tc bad a' d w') => take_any hp ha' hlen 1
 have HSP := fun (w' : World) (hp : Pr b L tb tc bad 0 d w') => stop_any hp hL.pos
 have HN2 := fun (w' : World) (hp : Pr b L tb tc bad 0 d w') => now_any hp hL.pos
 have HX1 := HNX 0 hL.pos
 obtain ⟨t, ht⟩ : ∃ t, now L 0 = t := ⟨_, rfl⟩
 have h2 := hL.pl0
 unfold isK at h2
 rw [ht] at HN hR hkn HN2 HX1 h2
 have h2 : t.kind = 2 := by simpa using h2
 rw [ht]
 have HR := Lib.hid hR
 have HP := Lib.hid hP
 have HMB := Lib.hid hm
 replace HN := Lib.hid HN
 replace HN2 := Lib.hid HN2
 replace HNX := Lib.hid HNX
 replace HX1 := Lib.hid HX1
 replace HTK := Lib.hid HTK
 replace HSP := Lib.hid HSP
 have HL := Lib.hid hL
 have hkn := Lib.hid hkn
 have F0 := fld0
 have F1 := fld1
 have F3 := fld3
 clear hP hm hR ht hL
 unfold ptV at HN HN2
 have h1 : t.kind ≠ 1 := by omega
 have hd1 : (t.kind == 1) = false := by simp [h1]
 have h6 : t.kind ≠ 6 := by omega
 have hd6 : (t.kind == 6) = false := by simp [h6]
 skip
 have hd2 : (t.kind == 2) = true := by simp [h2]
 clear h1 h2 h6
 have hR := HR.out
 rw [if_neg (by rw [hd1]; simp), if_neg (by rw [hd6]; simp), if_pos hd2] at hR
 have HRK := Lib.hid hR
 clear hR
 obtain ⟨iI, hiI, hI0, hI1, hI2⟩ := info_parts (show (Tryz.prog.info? 9).map (fun i => (i.zero, i.size, i.bytes)) = some (some (.string ⟨#[]⟩), 1, 16) by kernel_rfl)
 have tI : Tryz.prog.underlying 22 = some (.slice 9) := by kernel_rfl
 go_enter Tryz.func61, Tryz.ntmps61
 go_wp2_with fail
 refine (HN.out w (Below.refl _ _)).mono ?_; rintro e w1 ⟨rfl, hb1⟩
 have hm1 := HMB.out.below hb1 hkl
 have e5 := hm1.c 5 _ rfl
 have e0 := hm1.c 0 _ rfl
 have ef := hm1.fz
 have hs1 := hb1.size
 obtain ⟨W2, hW2⟩ : ∃ W, w1.setCell ⟨km, 5, none⟩ (.int .i64 t.at_) = W := ⟨_, rfl⟩
 have hP2 : Pr b L tb tc bad 0 d W2 := by rw [← hW2]; exact (HP.out.bel hb1).far (Ne.symm hkb) (Ne.symm hkt) _
 have hm2 : Blk MT km #[.string ⟨#[]⟩, .slice none 0 0, .slice none 0 0, .int .i64 0, .slice none 0 0, .int .i64 t.at_] W2 := by rw [← hW2]; exact hm1.set_ 5 _ _ rfl
 have hB2 : But (fun j => j = b ∨ j = km) w W2 := by rw [← hW2]; exact (But.of hb1).set_ (k := km) (.inr rfl) 5 _
 have hs2 : W2.heap.size = w1.heap.size := by rw [← hW2]; simp [World.setCell]
 have HP2 := Lib.hid hP2
 have HM2 := Lib.hid hm2
 have HB2 := Lib.hid hB2
 clear hm1 hb1 hP2 hm2 hB2
 go_wp2_with fail
 refine (HN2.out W2 HP2.out).mono ?_; rintro e w3 ⟨rfl, hb3⟩
 clear e0 e5 ef hW2
 go_wp2_with fail
 have HPc := Lib.hid (HP2.out.bel hb3)
 have HMc := Lib.hid (HM2.out.below hb3 HM2.out.lt)
 have HBc := Lib.hid (HB2.out.trans (But.of hb3))
 clear hb3 HP2 HM2 HB2
 go_loopw [] (fun wr => ∃ (k g : Nat) (nm : Bs.Bytes) (ps : List Bs.Bytes) (pa : Option Addr) (pq : Nat), k < L.length ∧ ps.length ≤ k ∧ nm.length ≤ k * 4096 ∧ L.length - k < g ∧ Hid (kwPatP L bad g nm ps k = R) ∧ Hid (wr.ownsRow w.heap.size 9 1 (.slice pa ps.length pq) ps.length (ps.map strV)) ∧ Hid (Blk MT km #[.string ⟨nm.toArray⟩, .slice pa ps.length pq, .slice none 0 0, .int .i64 0, .slice none 0 0, .int .i64 t.at_] wr) ∧ Hid (Pr b L tb tc bad k d wr) ∧ Hid (But (fun j => j = b ∨ j = km) w wr)) (fun wr => L.length - atP b wr)
 case atStart => exact ⟨0, L.length + 1, [], [], none, 0, HL.out.pos, Nat.le_refl _, by simp, by omega, HRK, Lib.hid (World.ownsRow_nil _ _ _ _), HMc, HPc, HBc⟩
 obtain ⟨k, g, nm, ps, pa, pq, hk, hpk, hnm, hg, HEk, HOw, HKk, HPk, HBt⟩ := hrel
 have hatk := HPk.out.at_
 have hrd := kwPat_round HL.out hk hg HEk.out
 have HI := Lib.hid (is_any HPk.out hk 2)
 obtain ⟨q, hq⟩ : ∃ t, isK L 2 k = t := ⟨_, rfl⟩
 obtain ⟨v, hv⟩ : ∃ t, now L k = t := ⟨_, rfl⟩
 obtain ⟨u, hu⟩ : ∃ t, now L (k + 1) = t := ⟨_, rfl⟩
 obtain ⟨r, hr⟩ : ∃ t, isK L 1 (k + 1) = t := ⟨_, rfl⟩
 have hvw : v.word.length ≤ 4096 := by rw [← hv]; exact HL.out.word _ hk
 have HNXk := HNX.out k hk
 have HTKk := HTK.out (k + 1)
 rw [hq, hv, hu, hr] at hrd
 rw [hq] at HI
 rw [hv] at HNXk
 rw [hu, hr] at HTKk
 replace HNXk := Lib.hid HNXk
 replace HTKk := Lib.hid HTKk
 have HRD := Lib.hid hrd
 have hsr := HBt.out.size
 clear hrd hq hv hu hr HEk HPc HMc HBc HRK
 go_wp2_with fail
 refine HI.out.mono ?_; rintro e w6 ⟨rfl, hb6⟩
 have hs6 := hb6.size
 have hP6 := HPk.out.bel hb6
 have hK6 := HKk.out.below hb6 HKk.out.lt
 have hO6 := own_below HOw.out hb6
 have hB6 := HBt.out.trans (But.of hb6)
 cases q with
 | false =>
  have hEE := HRD.out.1 (by first | rfl | trivial)
  subst hEE
  go_wp2_with fail
  go_end0
  exact ⟨rfl, hP6, ⟨_, _, hK6, (Rd.of hO6)⟩, hB6⟩
 | true =>
  obtain ⟨hk2, hA, hB⟩ := HRD.out.2 (by first | rfl | trivial)
  have HA := Lib.hid hA
  have HBq := Lib.hid hB
  have HX6 := Lib.hid (HNXk.out w6.drew hP6.drew)
  have HK6 := Lib.hid hK6
  have HO6 := Lib.hid hO6
  have HB6 := Lib.hid hB6
  clear HRD hA hB hP6 hK6 hO6 hB6 HOw HKk HPk HBt hb6
  go_wp2_with fail
  have hS : ∀ v, Blk MT km #[.string ⟨nm.toArray⟩, .slice pa ps.length pq, .slice none 0 0, .int .i64 0, .slice none 0 0, .int .i64 t.at_] v → v.cell? ⟨km, 0, none⟩ = some (.string ⟨nm.toArray⟩) := fun v hv => hv.c 0 _ rfl
  refine region_pk (fun c a a' w h hq => (show a.defers = [] ∧ _ from ⟨h ▸ (show a'.defers = [] ∧ _ from hq).1, (show a'.defers = [] ∧ _ from hq).2⟩)) (fun HPQ => ?_)
  refine Hd.start (fun v => v.cell? ⟨km, 0, none⟩ = some (.string ⟨nm.toArray⟩)) (by kernel_rfl) (hS _ (HK6.out.drewN 1)) (fun hH0 => ?_)
  refine Hd.tk 0 1 hH0 ?_ (hQ := fun c a w h => HPQ c _ _ w (put_defers a _ _) h)
  refine Hd.tk 1 2 hH0 ?_ (hQ := fun c a w h => HPQ c _ _ w (put_defers a _ _) h)
  refine Hd.tk 2 3 hH0 ?_ (hQ := fun c a w h => HPQ c _ _ w (put_defers a _ _) h)
  refine Hd.tk 3 7 hH0 ?_ (hQ := fun c a w h => HPQ c _ _ w (put_defers a _ _) h)
  refine Hd.tk 4 5 hH0 ?_ (hQ := fun c a w h => HPQ c _ _ w (put_defers a _ _) h)
  refine Hd.on 5 (fun K hK => ?_)
  go_simp
  refine HX6.out.mono ?_; rintro e w7 ⟨rfl, hP7, hm7⟩
  have hs7 : w6.heap.size ≤ w7.heap.size := hm7.size
  have hK7 : Blk MT km #[.string ⟨nm.toArray⟩, .slice pa ps.length pq, .slice none 0 0, .int .i64 0, .slice none 0 0, .int .i64 t.at_] w7 := (hm7.block _ (show km < w6.heap.size by omega) hkb).trans HK6.out
  have hO7 := own_mv (w := w6.drew) HO6.out hm7 hbl
  have hB7 := (But.drew HB6.out).trans (But.of_mv hm7 (.inl rfl))
  have HK7 := Lib.hid hK7
  have HO7 := Lib.hid hO7
  have HB7 := Lib.hid hB7
  have HP7 := Lib.hid hP7
  clear hP7 hm7 hK7 hO7 hB7 HX6 HK6 HO6 HB6
  unfold ptV
  go_simp
  refine hK.out _ _ (hS _ HK7.out) (fun hH1 => ?_)
  clear hK K
  try simp only [Act.put, Hd.sa, Hd.sz, Hd.ss]
  refine Hd.tk 6 7 hH1 ?_ (hQ := fun c a w h => HPQ c _ _ w (put_defers a _ _) h)
  refine Hd.take 7 10 (oi := ?_) (v := ?_) ?_ (by kernel_rfl) (fun c a w h => HPQ c _ _ w (put_defers a _ _) h) hH1 ?_ ?_ ?_
  rotate_left 2
  · simp only [Hd.ga, Hd.gs, Hd.gz]
    exact rfl
  · rfl
  · intro w hSw
    (try dsimp only at hSw)
    go_simp
    rw [if_neg (by (try simp only [List.length_append, List.length_cons, List.length_nil]); omega)]
  try simp only [Act.put, Hd.sa, Hd.sz, Hd.ss]
  refine Hd.tk 8 9 hH1 ?_ (hQ := fun c a w h => HPQ c _ _ w (put_defers a _ _) h)
  refine Hd.tk 9 10 hH1 ?_ (hQ := fun c a w h => HPQ c _ _ w (put_defers a _ _) h)
  have e0 := HK7.out.c 0 _ rfl
  have ef := HK7.out.fz
  refine Hd.la 10 (fun K hK => ?_)
  go_simp
  refine hK.out _ _ ?_
  clear hK K
  try simp only [Act.put, Hd.sa, Hd.sz, Hd.ss]
  obtain ⟨W8, hW8⟩ : ∃ W, w7.setCell ⟨km, 0, none⟩ (.string ⟨(nm ++ v.word).toArray⟩) = W := ⟨_, rfl⟩
  have hcat : w7.setCell ⟨km, 0, none⟩ (.string (⟨nm.toArray⟩ ++ ⟨v.word.toArray⟩)) = W8 := by rw [← hW8]; congr 2
  rw [hcat]
  have hP8 : Pr b L tb tc bad (k + 1) d W8 := by rw [← hW8]; exact HP7.out.far (Ne.symm hkb) (Ne.symm hkt) _
  have hK8 : Blk MT km #[.string ⟨(nm ++ v.word).toArray⟩, .slice pa ps.length pq, .slice none 0 0, .int .i64 0, .slice none 0 0, .int .i64 t.at_] W8 := by rw [← hW8]; exact HK7.out.set_ 0 _ _ rfl
  have hO8 : W8.ownsRow w.heap.size 9 1 (.slice pa ps.length pq) ps.length (ps.map strV) := by rw [← hW8]; exact ownsRow_setCell_below HO7.out hkl _
  have hB8 : But (fun j => j = b ∨ j = km) w W8 := by rw [← hW8]; exact HB7.out.set_ (k := km) (.inr rfl) 0 _
  have hs8 : W8.heap.size = w7.heap.size := by rw [← hW8]; simp [World.setCell]
  have HX8 := Lib.hid (HTKk.out hk2 W8.drew hP8.drew)
  have HK8 := Lib.hid hK8
  have HO8 := Lib.hid hO8
  have HB8 := Lib.hid hB8
  clear hP8 hK8 hO8 hB8 hW8 hcat HK7 HO7 HB7 HP7 e0 ef
  go_wp2_with fail
  have hS2 : ∀ v', Blk MT km #[.string ⟨(nm ++ v.word).toArray⟩, .slice pa ps.length pq, .slice none 0 0, .int .i64 0, .slice none 0 0, .int .i64 t.at_] v' → v'.cell? ⟨km, 1, none⟩ = some (.slice pa ps.length pq) := fun v' hv => hv.c 1 _ rfl
  refine region_pk (fun c a a' w h hq => (show a.defers = [] ∧ _ from ⟨h ▸ (show a'.defers = [] ∧ _ from hq).1, (show a'.defers = [] ∧ _ from hq).2⟩)) (fun HPQ => ?_)
  refine Hd.start (fun v => v.cell? ⟨km, 1, none⟩ = some (.slice pa ps.length pq)) (by kernel_rfl) (hS2 _ (HK8.out.drewN 1)) (fun hH0 => ?_)
  refine Hd.tk 0 10 hH0 ?_ (hQ := fun c a w h => HPQ c _ _ w (put_defers a _ _) h)
  refine Hd.tk 1 2 hH0 ?_ (hQ := fun c a w h => HPQ c _ _ w (put_defers a _ _) h)
  refine Hd.tk 2 3 hH0 ?_ (hQ := fun c a w h => HPQ c _ _ w (put_defers a _ _) h)
  refine Hd.tk 3 4 hH0 ?_ (hQ := fun c a w h => HPQ c _ _ w (put_defers a _ _) h)
  refine Hd.tk 4 9 hH0 ?_ (hQ := fun c a w h => HPQ c _ _ w (put_defers a _ _) h)
  refine Hd.tk 5 6 hH0 ?_ (hQ := fun c a w h => HPQ c _ _ w (put_defers a _ _) h)
  refine Hd.on 6 (fun K hK => ?_)
  go_simp
  refine HX8.out.mono ?_; intro e w9 ht9
  cases r with
  | false =>
   simp only [Bool.false_eq_true, if_false] at ht9
   obtain ⟨rfl, hm⟩ := ht9
   have hE := HA.out (by first | rfl | trivial)
   subst hE
   go_simp
   exact ⟨rfl, rfl, (But.drew HB8.out).trans (But.of_mv hm (.inl rfl))⟩
  | true =>
   simp only [if_true] at ht9
   obtain ⟨rfl, hP9, hm9⟩ := ht9
   obtain ⟨hk3, g', hg', hE'⟩ := HBq.out (by first | rfl | trivial)
   have HE' := Lib.hid hE'
   have hs9 : W8.heap.size ≤ w9.heap.size := hm9.size
   have hK9 : Blk MT km #[.string ⟨(nm ++ v.word).toArray⟩, .slice pa ps.length pq, .slice none 0 0, .int .i64 0, .slice none 0 0, .int .i64 t.at_] w9 := (hm9.block _ (show km < W8.heap.size by omega) hkb).trans HK8.out
   have hO9 := own_mv (w := W8.drew) HO8.out hm9 hbl
   have hB9 := (But.drew HB8.out).trans (But.of_mv hm9 (.inl rfl))
   have HK9 := Lib.hid hK9
   have HO9 := Lib.hid hO9
   have HB9 := Lib.hid hB9
   have HP9 := Lib.hid hP9
   clear hE' hP9 hm9 hK9 hO9 hB9 HX8 HK8 HO8 HB8 HA HBq
   unfold ptV
   go_simp
   refine hK.out _ _ (hS2 _ HK9.out) (fun hH1 => ?_)
   clear hK K
   try simp only [Act.put, Hd.sa, Hd.sz, Hd.ss]
   refine Hd.tk 7 8 hH1 ?_ (hQ := fun c a w h => HPQ c _ _ w (put_defers a _ _) h)
   have hP9 := HP9.out
   have hK9 := HK9.out
   have hB9 := HB9.out.alloc (.cells #[.string ⟨u.word.toArray⟩] 9)
   have hO9 := own_below HO9.out (alloc_bel w9 (.cells #[.string ⟨u.word.toArray⟩] 9))
   have hbbB := alloc_bel w9 (.cells #[.string ⟨u.word.toArray⟩] 9)
   have hMkB := Blk.made (T := 9) (cs := #[.string ⟨u.word.toArray⟩]) w9
   have hszB : (w9.alloc (.cells #[.string ⟨u.word.toArray⟩] 9)).heap.size = w9.heap.size + 1 := by simp
   have hP10 := hP9.bel hbbB
   have hK10 := hK9.alloc (.cells #[.string ⟨u.word.toArray⟩] 9)
   obtain ⟨W10, halB⟩ : ∃ W, w9.alloc (.cells #[.string ⟨u.word.toArray⟩] 9) = W := ⟨_, rfl⟩
   rw [halB] at hMkB hszB hP10 hK10
   clear hbbB
   rw [halB] at hB9 hO9
   have hnews := World.news_of_block hMkB
   have HP10 := Lib.hid hP10
   have HK10 := Lib.hid hK10
   have HB10 := Lib.hid hB9
   have HO10 := Lib.hid hO9
   have HNEWS := Lib.hid hnews
   clear hP9 hK9 hB9 hO9 hP10 hK10 hnews hMkB HP9 HK9 HB9 HO9
   refine Hd.on 8 (fun K hK => ?_)
   go_simp
   refine hK.out _ _ (hS2 _ HK10.out) (fun hH2 => ?_)
   clear hK K
   try simp only [Act.put, Hd.sa, Hd.sz, Hd.ss]
   refine Hd.on 9 (fun K hK => ?_)
   refine step_append_lies _ rfl (.tmp 56) (.tmp 60) 22 rfl w.heap.size 9 iI (.string ⟨#[]⟩) 1 16 tI hiI hI0 hI1 hI2 rfl (by decide) _ ps.length (ps.map strV) (by simp [Act.eval]) HO10.out ⟨w9.heap.size, 0, none⟩ 1 1 [.string ⟨u.word.toArray⟩] (by simp [Act.eval]) rfl HNEWS.out (fun x hx => by simp at hx; subst hx; rfl) (by decide) (by unfold maxLen; omega) (by omega) (by omega) _ rfl ?_
   intro gb cap w11 hown11 hgrow11 hat11 hlt11
   have hs11 := hgrow11.size
   have hob : ∀ j, (Value.slice pa ps.length pq).ownBlock = some j → w.heap.size ≤ j := fun j hj => (HO10.out.lt j hj).1
   have hP11 := HP10.out.grown hgrow11 (fun h => by have := hob _ h; omega) (fun h => by have := hob _ h; omega)
   have hK11 : Blk MT km #[.string ⟨(nm ++ v.word).toArray⟩, .slice pa ps.length pq, .slice none 0 0, .int .i64 0, .slice none 0 0, .int .i64 t.at_] w11 := (hgrow11.block _ (by omega) (fun h => by have := hob _ h.symm; omega)).trans HK10.out
   have hB11 := But.grown HB10.out hgrow11 hob
   have e1 := hK11.c 1 _ rfl
   have ef := hK11.fz
   have HP11 := Lib.hid hP11
   have HK11 := Lib.hid hK11
   have HB11 := Lib.hid hB11
   have HO11 := Lib.hid hown11
   clear hown11 hgrow11 hat11 hob hP11 hK11 hB11 HP10 HK10 HB10 HO10 HNEWS halB
   refine hK.out _ _ (hS2 _ HK11.out) (fun hH3 => ?_)
   clear hK K
   try simp only [Act.put, Hd.sa, Hd.sz, Hd.ss]
   refine Hd.tk 10 11 hH3 ?_ (hQ := fun c a w h => HPQ c _ _ w (put_defers a _ _) h)
   refine Hd.tk 11 12 hH3 ?_ (hQ := fun c a w h => HPQ c _ _ w (put_defers a _ _) h)
   refine Hd.la 12 (fun K hK => ?_)
   go_simp
   refine hK.out _ _ ?_
   clear hK K
   try simp only [Act.put, Hd.sa, Hd.sz, Hd.ss]
   go_wp2_with fail
   have hlo : (ps ++ [u.word]).length = ps.length + 1 := by simp
   have hPf := HP11.out.far (p := ⟨km, 1, none⟩) (show b ≠ km from Ne.symm hkb) (show tb ≠ km from Ne.symm hkt) (.slice (some ⟨gb, 0, none⟩) (ps.length + 1) cap)
   refine ⟨⟨k + 1 + 1, g', nm ++ v.word, ps ++ [u.word], some ⟨gb, 0, none⟩, cap, hk3, by rw [hlo]; omega, by rw [List.length_append]; omega, hg', HE', Lib.hid ?_, Lib.hid (by rw [hlo]; exact HK11.out.set_ 1 _ _ rfl), Lib.hid hPf, Lib.hid (HB11.out.set_ (k := km) (.inr rfl) 1 _)⟩, ?_⟩
   · rw [hlo, List.map_append]
     exact ownsRow_setCell_below HO11.out hkl _
   rw [hPf.at_]; omega
end
end Pa
end Go.Proofs.YtmmgfifpjifjnaaGreatDoor
namespace Go.Proofs.YtmmgfifpjifjnaaGreatDoor
open Go.RowKit
namespace Pa
open Bs Sm Tr
open Lx (Mv)
section
variable {b : Nat} {L : List Pt} {tb tc : Nat} {bad : Int} {a d f : Nat} {w w' w0 : World} {S S' : Nat → Prop} {K : Nat} {x : Nd}
theorem pat_res (hL : LOk L) : Res L bad (fun (_ : Bs.Bytes × List Bs.Bytes × Nat) => []) (·.2.2) 0 0 0 (patP L bad) := by
 unfold patP
 by_cases h1 : isK L 1 0 = true
 · rw [if_pos h1]; exact ⟨Nat.zero_le _, hL.next h1 (by omega) hL.pos, by rw [cntL_nil]; omega, InL.nil⟩
 rw [if_neg h1]
 by_cases h6 : isK L 6 0 = true
 · rw [if_pos h6]
   exact Pl.bind (take_pl hL 1 1 (hL.next h6 (by omega) hL.pos) (by omega)) (fun m1 => ⟨Nat.zero_le _, m1, by rw [cntL_nil]; omega, InL.nil⟩)
 rw [if_neg h6]
 by_cases h2 : isK L 2 0 = true
 · rw [if_pos h2]; exact kwPat_res hL _ _ _ _ hL.pos
 rw [if_neg h2]; exact Flt.stop hL.pos
theorem primN_res (hL : LOk L) (a : Nat) (ha : a < L.length) : Res L bad (fun (_ : Int × Nat) => []) (·.2) 0 0 0 (primNP L bad a) := by
 unfold primNP
 by_cases h : opB L [60] a = true
 · rw [if_pos h]
   have h1 := hL.next (opB_k h) (by omega) ha
   split
   · refine Pl.bind (take_pl hL 2 (a + 1) h1 (by omega)) (fun h2 => ?_)
     split
     · exact Flt.stop h2
     refine Pl.bind (take_pl hL 3 (a + 1 + 1) h2 (by omega)) (fun h3 => ?_)
     exact Pl.bind (takeOp_pl hL _ _ h3) (fun h4 => ⟨Nat.zero_le _, h4, by rw [cntL_nil]; omega, InL.nil⟩)
   exact Flt.stop h1
 rw [if_neg h]; exact ⟨Nat.zero_le _, ha, by rw [cntL_nil]; omega, InL.nil⟩
def methC (L : List Pt) (bad : Int) (F : Nat) : PE Mt :=
 match methP L bad F with
 | .error E => .error E
 | .ok m => if checkM m = 0 then .ok m else .error (m.at_, checkM m)
def MeO (b : Nat) (x : PE Mt) (w : World) (e : Ending) (w' : World) : Prop :=
 match x with
 | .error E => Fel b E w e w'
 | .ok m => (∃ pv tv bv, e = .returned (mtV m pv tv bv) ∧ MtAt (New w) w' m pv tv bv) ∧ Mv b w w'
set_option maxRecDepth 100000 in
set_option maxHeartbeats 3200000 in
theorem method_any (hL : LOk L) (hsm : 3 * L.length ≤ 100000) (hP : Pr b L tb tc bad 0 0 w) (F : Nat) (hF : 16 * L.length + 9 ≤ F) :
  Calls Tryz.prog 37 #[.pointer (some ⟨b, 0, none⟩)] w (MeO b (methC L bad F) w) := by
 have hlen := hL.len
 have hbl := hP.blk.lt
 have htl := hP.lt
 have hm0 := Mv.refl b w
 have hbbA := alloc_bel w (.cells #[.string ⟨#[]⟩, .slice none 0 0, .slice none 0 0, .int .i64 0, .slice none 0 0, .int .i64 0] MT)
 have hMkA := Blk.made (T := MT) (cs := #[.string ⟨#[]⟩, .slice none 0 0, .slice none 0 0, .int .i64 0, .slice none 0 0, .int .i64 0]) w
 have hszA : (w.alloc (.cells #[.string ⟨#[]⟩, .slice none 0 0, .slice none 0 0, .int .i64 0, .slice none 0 0, .int .i64 0] MT)).heap.size = w.heap.size + 1 := by simp
 have hP1 := hP.bel hbbA
 have hM1 := hm0.alloc (.cells #[.string ⟨#[]⟩, .slice none 0 0, .slice none 0 0, .int .i64 0, .slice none 0 0, .int .i64 0] MT)
 obtain ⟨W1, halA⟩ : ∃ W, w.alloc (.cells #[.string ⟨#[]⟩, .slice none 0 0, .slice none 0 0, .int .i64 0, .slice none 0 0, .int .i64 0] MT) = W := ⟨_, rfl⟩
 rw [halA] at hMkA hszA hP1 hM1
 clear hbbA
 have hbbB := alloc_bel W1 (.cells #[.string ⟨#[]⟩, .slice none 0 0, .slice none 0 0, .int .i64 0, .slice none 0 0, .int .i64 0] MT)
 have hMkB := Blk.made (T := MT) (cs := #[.string ⟨#[]⟩, .slice none 0 0, .slice none 0 0, .int .i64 0, .slice none 0 0, .int .i64 0]) W1
 have hszB : (W1.alloc (.cells #[.string ⟨#[]⟩, .slice none 0 0, .slice none 0 0, .int .i64 0, .slice none 0 0, .int .i64 0] MT)).heap.size = W1.heap.size + 1 := by simp
 have hP2 := hP1.bel hbbB
 have hM2 := hM1.alloc (.cells #[.string ⟨#[]⟩, .slice none 0 0, .slice none 0 0, .int .i64 0, .slice none 0 0, .int .i64 0] MT)
 have hZ2 := hMkA.alloc (.cells #[.string ⟨#[]⟩, .slice none 0 0, .slice none 0 0, .int .i64 0, .slice none 0 0, .int .i64 0] MT)
 obtain ⟨W2, halB⟩ : ∃ W, W1.alloc (.cells #[.string ⟨#[]⟩, .slice none 0 0, .slice none 0 0, .int .i64 0, .slice none 0 0, .int .i64 0] MT) = W := ⟨_, rfl⟩
 rw [halB] at hMkB hszB hP2 hM2 hZ2
 clear hbbB
 rw [hszA] at hMkB
 have HPT := pattern_any (km := w.heap.size + 1) hL hP2 hMkB (by omega) (by omega)
 have hpres := pat_res (bad := bad) hL
 obtain ⟨R, hR⟩ : ∃ R, methC L bad F = R := ⟨_, rfl⟩
 rw [hR]
 unfold methC methP at hR
 obtain ⟨E, hE⟩ : ∃ E, patP L bad = E := ⟨_, rfl⟩
 obtain ⟨t, ht⟩ : ∃ t, now L 0 = t := ⟨_, rfl⟩
 rw [hE, ht] at HPT
 rw [hE] at hpres
 rw [hE, ht] at hR
 have HR := Lib.hid hR
 replace HPT := Lib.hid HPT
 have HM2 := Lib.hid hM2
 have HZ2 := Lib.hid hZ2
 have HL := Lib.hid hL
 clear hP1 hM1 hP2 hM2 hZ2 hMkA hMkB hm0 hP hE ht hR hL
 go_enter Tryz.func37, Tryz.ntmps37
 go_wp2_with fail
 refine HPT.out.mono ?_; intro e w3 ht3
 clear halA halB
 cases E with
 | error y =>
  obtain ⟨rfl, hB3⟩ := ht3
  have hR := HR.out
  simp only [bind, Except.bind] at hR
  subst hR
  go_wp2_with fail
  exact ⟨rfl, rfl, But.mv hB3 (fun k hk => by rcases hk with hk | hk; exact .inl hk; exact .inr (by omega)) HM2.out⟩
 | ok y =>
  obtain ⟨nm, ps, a1⟩ := y
  have hR := HR.out
  simp only [bind, Except.bind] at hR
  replace HR := Lib.hid hR
  clear hR
  obtain ⟨rfl, hP3, ⟨pa, pq, hK3, hR3⟩, hB3⟩ := ht3
  obtain ⟨-, q1, -, -⟩ := hpres
  simp only at q1
  have hs3 := hB3.size
  have hM3 := But.mv hB3 (fun k hk => by rcases hk with hk | hk; exact .inl hk; exact .inr (by omega)) HM2.out
  have hZ3 : Blk MT w.heap.size #[.string ⟨#[]⟩, .slice none 0 0, .slice none 0 0, .int .i64 0, .slice none 0 0, .int .i64 0] w3 := (hB3.block _ (by omega) (by omega)).trans HZ2.out
  have HPI := primitive_any HL.out hP3 q1
  have hires := primN_res (bad := bad) HL.out a1 q1
  obtain ⟨E2, hE2⟩ : ∃ E, primNP L bad a1 = E := ⟨_, rfl⟩
  have hR := HR.out
  rw [hE2] at HPI hires hR
  replace HPI := Lib.hid HPI
  replace HR := Lib.hid hR
  have HK3 := Lib.hid hK3
  have HR3 := Lib.hid hR3
  have HM3 := Lib.hid hM3
  have HZ3 := Lib.hid hZ3
  clear hR hE2 hP3 hK3 hR3 hB3 hM3 hZ3 HM2 HZ2
  go_wp2_with fail
  refine HPI.out.mono ?_; intro e w4 ht4
  cases E2 with
  | error y =>
   obtain ⟨rfl, hm⟩ := ht4
   have hR := HR.out
   simp only [bind, Except.bind] at hR
   subst hR
   go_wp2_with fail
   exact ⟨rfl, rfl, HM3.out.trans hm⟩
  | ok y =>
   obtain ⟨pr, a2⟩ := y
   have hR := HR.out
   simp only [bind, Except.bind] at hR
   replace HR := Lib.hid hR
   clear hR
   obtain ⟨rfl, hP4, hm4⟩ := ht4
   obtain ⟨-, q2, -, -⟩ := hires
   simp only at q2
   have hs4 := hm4.size
   have hK4 : Blk MT (w.heap.size + 1) #[.string ⟨nm.toArray⟩, .slice pa ps.length pq, .slice none 0 0, .int .i64 0, .slice none 0 0, .int .i64 t.at_] w4 := (hm4.block _ (by omega) (by omega)).trans HK3.out
   have e3 := hK4.c 3 _ rfl
   have ef := hK4.fz
   obtain ⟨W5, hW5⟩ : ∃ W, w4.setCell ⟨w.heap.size + 1, 3, none⟩ (.int .i64 pr) = W := ⟨_, rfl⟩
   have hP5 : Pr b L tb tc bad a2 0 W5 := by rw [← hW5]; exact hP4.far (show b ≠ w.heap.size + 1 by omega) (show tb ≠ w.heap.size + 1 by omega) _
   have hK5 : Blk MT (w.heap.size + 1) #[.string ⟨nm.toArray⟩, .slice pa ps.length pq, .slice none 0 0, .int .i64 pr, .slice none 0 0, .int .i64 t.at_] W5 := by rw [← hW5]; exact hK4.set_ 3 _ _ rfl
   have hM5 : Mv b w W5 := by rw [← hW5]; exact (HM3.out.trans hm4).new (show w.heap.size ≤ w.heap.size + 1 by omega) _
   have hZ4 : Blk MT w.heap.size #[.string ⟨#[]⟩, .slice none 0 0, .slice none 0 0, .int .i64 0, .slice none 0 0, .int .i64 0] w4 := (hm4.block _ (by omega) (by omega)).trans HZ3.out
   have hZ5 : Blk MT w.heap.size #[.string ⟨#[]⟩, .slice none 0 0, .slice none 0 0, .int .i64 0, .slice none 0 0, .int .i64 0] W5 := by rw [← hW5]; exact hZ4.far (show w.heap.size ≠ w.heap.size + 1 by omega) _
   have hR5 : Rd (New W2) strV W5 (.slice pa ps.length pq) ps := by rw [← hW5]; exact (HR3.out.kp (Mv.kp hm4 (by unfold New; omega))).kp (kp_set 3 (by unfold New; omega) _)
   have hs5 : W5.heap.size = w4.heap.size := by rw [← hW5]; simp [World.setCell]
   have HVA := vars_any HL.out hP5 q2
   have hvres := vars_res (bad := bad) HL.out (L.length + 1) a2 q2
   obtain ⟨E3, hE3⟩ : ∃ E, varsP L bad (L.length + 1) a2 = E := ⟨_, rfl⟩
   have hR := HR.out
   rw [hE3] at HVA hvres hR
   replace HVA := Lib.hid HVA
   replace HR := Lib.hid hR
   have HK5 := Lib.hid hK5
   have HM5 := Lib.hid hM5
   have HZ5 := Lib.hid hZ5
   have HR5 := Lib.hid hR5
   clear hR hE3 hP4 hm4 hK4 hP5 hK5 hM5 hZ5 hR5 HK3 HR3 HM3 HZ3
   go_wp2_with fail
   refine HVA.out.mono ?_; intro e w6 ht6
   clear e3 ef hW5
   cases E3 with
   | error y =>
    obtain ⟨rfl, hm⟩ := ht6
    have hR := HR.out
    simp only [bind, Except.bind] at hR
    subst hR
    go_wp2_with fail
    exact ⟨rfl, rfl, HM5.out.trans hm⟩
   | ok y =>
    obtain ⟨vs, a3⟩ := y
    have hR := HR.out
    simp only [bind, Except.bind] at hR
    replace HR := Lib.hid hR
    clear hR
    obtain ⟨vv, hvv, rfl, hP6, hm6⟩ := ht6
    obtain ⟨va, vq, rfl, -, -⟩ := hvv.form
    obtain ⟨-, q3, -, -⟩ := hvres
    simp only at q3
    have hs6 := hm6.size
    have hK6 : Blk MT (w.heap.size + 1) #[.string ⟨nm.toArray⟩, .slice pa ps.length pq, .slice none 0 0, .int .i64 pr, .slice none 0 0, .int .i64 t.at_] w6 := (hm6.block _ (by omega) (by omega)).trans HK5.out
    have hZ6 : Blk MT w.heap.size #[.string ⟨#[]⟩, .slice none 0 0, .slice none 0 0, .int .i64 0, .slice none 0 0, .int .i64 0] w6 := (hm6.block _ (by omega) (by omega)).trans HZ5.out
    have e2 := hK6.c 2 _ rfl
    have ef := hK6.fz
    obtain ⟨W7, hW7⟩ : ∃ W, w6.setCell ⟨w.heap.size + 1, 2, none⟩ (.slice va vs.length vq) = W := ⟨_, rfl⟩
    have hP7 : Pr b L tb tc bad a3 0 W7 := by rw [← hW7]; exact hP6.far (show b ≠ w.heap.size + 1 by omega) (show tb ≠ w.heap.size + 1 by omega) _
    have hK7 : Blk MT (w.heap.size + 1) #[.string ⟨nm.toArray⟩, .slice pa ps.length pq, .slice va vs.length vq, .int .i64 pr, .slice none 0 0, .int .i64 t.at_] W7 := by rw [← hW7]; exact hK6.set_ 2 _ _ rfl
    have hM7 : Mv b w W7 := by rw [← hW7]; exact (HM5.out.trans hm6).new (show w.heap.size ≤ w.heap.size + 1 by omega) _
    have hZ7 : Blk MT w.heap.size #[.string ⟨#[]⟩, .slice none 0 0, .slice none 0 0, .int .i64 0, .slice none 0 0, .int .i64 0] W7 := by rw [← hW7]; exact hZ6.far (show w.heap.size ≠ w.heap.size + 1 by omega) _
    have hR7 : Rd (New W2) strV W7 (.slice pa ps.length pq) ps := by rw [← hW7]; exact (HR5.out.kp (Mv.kp hm6 (by unfold New; omega))).kp (kp_set 2 (by unfold New; omega) _)
    have hV7 : Rd (New W2) strV W7 (.slice va vs.length vq) vs := by rw [← hW7]; exact (hvv.mono (S' := New W2) (fun j hj _ => by unfold New at *; omega)).kp (kp_set 2 (by unfold New; omega) _)
    have hs7 : W7.heap.size = w6.heap.size := by rw [← hW7]; simp [World.setCell]
    have HST := (PA.all HL.out F).stmts (e := 0) hP7 q3 (by omega) (.inl rfl) (by omega)
    have hsres := (PB.all (bad := bad) HL.out F).stmts 0 0 a3 [] (.inl rfl) q3 InL.nil
    obtain ⟨E4, hE4⟩ : ∃ E, stmtsP L bad F 0 0 a3 [] = E := ⟨_, rfl⟩
    have hR := HR.out
    rw [hE4] at HST hsres hR
    replace HST := Lib.hid HST
    replace HR := Lib.hid hR
    have HK7 := Lib.hid hK7
    have HM7 := Lib.hid hM7
    have HZ7 := Lib.hid hZ7
    have HR7 := Lib.hid hR7
    have HV7 := Lib.hid hV7
    clear hR hE4 hP6 hm6 hK6 hZ6 hvv hP7 hK7 hM7 hZ7 hR7 hV7 HK5 HR5 HM5 HZ5
    go_wp2_with fail
    refine HST.out.mono ?_; intro e w8 ht8
    clear e2 ef hW7
    cases E4 with
    | error y =>
     obtain ⟨rfl, hm⟩ := ht8
     have hR := HR.out
     simp only [bind, Except.bind] at hR
     subst hR
     go_wp2_with fail
     exact ⟨rfl, rfl, HM7.out.trans hm⟩
    | ok y =>
     obtain ⟨bd, a4⟩ := y
     have hR := HR.out
     simp only [bind, Except.bind] at hR
     replace HR := Lib.hid hR
     clear hR
     obtain ⟨bv, hbv, rfl, hP8, hm8⟩ := ht8
     obtain ⟨ba, bq, rfl, -, -⟩ := hbv.form
     obtain ⟨q4, q5, q6, q7⟩ := hsres
     simp only at q4 q5 q6 q7
     rw [cntL_nil] at q6
     have hs8 := hm8.size
     have hK8 : Blk MT (w.heap.size + 1) #[.string ⟨nm.toArray⟩, .slice pa ps.length pq, .slice va vs.length vq, .int .i64 pr, .slice none 0 0, .int .i64 t.at_] w8 := (hm8.block _ (by omega) (by omega)).trans HK7.out
     have hZ8 : Blk MT w.heap.size #[.string ⟨#[]⟩, .slice none 0 0, .slice none 0 0, .int .i64 0, .slice none 0 0, .int .i64 0] w8 := (hm8.block _ (by omega) (by omega)).trans HZ7.out
     have e4 := hK8.c 4 _ rfl
     have ef := hK8.fz
     obtain ⟨W9, hW9⟩ : ∃ W, w8.setCell ⟨w.heap.size + 1, 4, none⟩ (.slice ba bd.length bq) = W := ⟨_, rfl⟩
     have hK9 : Blk MT (w.heap.size + 1) #[.string ⟨nm.toArray⟩, .slice pa ps.length pq, .slice va vs.length vq, .int .i64 pr, .slice ba bd.length bq, .int .i64 t.at_] W9 := by rw [← hW9]; exact hK8.set_ 4 _ _ rfl
     have hM9 : Mv b w W9 := by rw [← hW9]; exact (HM7.out.trans hm8).new (show w.heap.size ≤ w.heap.size + 1 by omega) _
     have hZ9 : Blk MT w.heap.size #[.string ⟨#[]⟩, .slice none 0 0, .slice none 0 0, .int .i64 0, .slice none 0 0, .int .i64 0] W9 := by rw [← hW9]; exact hZ8.far (show w.heap.size ≠ w.heap.size + 1 by omega) _
     have hR9 : Rd (New W2) strV W9 (.slice pa ps.length pq) ps := by rw [← hW9]; exact (HR7.out.kp (Mv.kp hm8 (by unfold New; omega))).kp (kp_set 4 (by unfold New; omega) _)
     have hV9 : Rd (New W2) strV W9 (.slice va vs.length vq) vs := by rw [← hW9]; exact (HV7.out.kp (Mv.kp hm8 (by unfold New; omega))).kp (kp_set 4 (by unfold New; omega) _)
     have hB9 : Tree (New W2) W9 (.slice ba bd.length bq) bd := by rw [← hW9]; exact (hbv.mono (S' := New W2) (fun j hj _ => by unfold New at *; omega)).kp (kp_set 4 (by unfold New; omega) _)
     have hs9 : W9.heap.size = w8.heap.size := by rw [← hW9]; simp [World.setCell]
     have hMT : MtAt (New W2) W9 ⟨nm, ps, vs, pr, bd, t.at_⟩ (.slice pa ps.length pq) (.slice va vs.length vq) (.slice ba bd.length bq) := ⟨hR9, hV9, hB9⟩
     have hCK := Check_any ⟨nm, ps, vs, pr, bd, t.at_⟩ (.slice pa ps.length pq) (.slice va vs.length vq) (.slice ba bd.length bq) (by show cntL bd ≤ 100000; omega) q7 W9 (hMT.mono (fun _ _ _ => trivial))
     obtain ⟨ck, hck⟩ : ∃ c, checkM ⟨nm, ps, vs, pr, bd, t.at_⟩ = c := ⟨_, rfl⟩
     have hR := HR.out
     rw [hck] at hCK hR
     unfold mtV at hCK
     have HCK := Lib.hid hCK
     replace HR := Lib.hid hR
     have HMT := Lib.hid hMT
     have HK9 := Lib.hid hK9
     have HM9 := Lib.hid hM9
     have HZ9 := Lib.hid hZ9
     have m0 := hK9.c 0 _ rfl
     have m1 := hK9.c 1 _ rfl
     have m2 := hK9.c 2 _ rfl
     have m3 := hK9.c 3 _ rfl
     have m4 := hK9.c 4 _ rfl
     have m5 := hK9.c 5 _ rfl
     clear hR hck hCK hP8 hm8 hK8 hZ8 hbv hK9 hM9 hZ9 hR9 hV9 hB9 hMT HK7 HR7 HV7 HM7 HZ7
     go_wp2_with fail
     refine HCK.out.mono ?_; rintro e w10 ⟨rfl, hb10⟩
     have hs10 := hb10.size
     have hK10 := HK9.out.below hb10 (by omega)
     have hZ10 := HZ9.out.below hb10 (by omega)
     have hM10 := HM9.out.trans (Mv.of_bel hb10)
     have hMT10 := HMT.out.bel hb10
     clear e4 ef hW9 m0 m1 m2 m3 m4 m5
     have m0 := hK10.c 0 _ rfl
     have m1 := hK10.c 1 _ rfl
     have m2 := hK10.c 2 _ rfl
     have m3 := hK10.c 3 _ rfl
     have m4 := hK10.c 4 _ rfl
     have m5 := hK10.c 5 _ rfl
     have HMT10 := Lib.hid hMT10
     have HM10 := Lib.hid hM10
     by_cases hc0 : ck = 0
     · have hcb : (ck != 0) = false := by rw [hc0]; rfl
       have hR := HR.out
       rw [if_pos hc0] at hR
       subst hR
       clear hc0
       have z0 := hZ10.c 0 _ rfl
       have z1 := hZ10.c 1 _ rfl
       have z2 := hZ10.c 2 _ rfl
       have z3 := hZ10.c 3 _ rfl
       have z4 := hZ10.c 4 _ rfl
       have z5 := hZ10.c 5 _ rfl
       have zf := hZ10.fz
       clear hK10 hZ10 hM10 hMT10
       go_wp2_with fail
       refine bodyPost_ret (v := .agg #[.string ⟨nm.toArray⟩, .slice pa ps.length pq, .slice va vs.length vq, .int .i64 pr, .slice ba bd.length bq, .int .i64 t.at_]) (by simp [results, Tryz.results37, go_sem, z0, z1, z2, z3, z4, z5]) rfl ?_
       refine ⟨⟨_, _, _, rfl, (HMT10.out.kp (kp_set6 (k := w.heap.size) ?_)).mono (fun j hj _ => ?_)⟩, mv_set6 HM10.out (Nat.le_refl _)⟩
       all_goals unfold New at *
       all_goals omega
     have hcb : (ck != 0) = true := by simpa using hc0
     have hR := HR.out
     rw [if_neg hc0] at hR
     subst hR
     go_wp2_with fail
     exact ⟨rfl, rfl, HM10.out⟩
end
end Pa
end Go.Proofs.YtmmgfifpjifjnaaGreatDoor
namespace Go.Proofs.YtmmgfifpjifjnaaGreatDoor
open Go.RowKit
namespace Pa
open Bs Sm Tr
open Lx (Mv)
section
variable {b : Nat} {L : List Pt} {tb tc : Nat} {bad : Int} {a d f : Nat} {w w' w0 : World} {S S' : Nat → Prop} {K : Nat} {x : Nd}
def ptC (t : Pt) : List Value := [.int .i64 t.kind, .string ⟨t.word.toArray⟩, .int .i64 t.num, .int .i64 t.at_]
def flatP (l : List Pt) : List Value := l.flatMap ptC
theorem flatP_snoc (l : List Pt) (t : Pt) : flatP (l ++ [t]) = flatP l ++ ptC t := by unfold flatP; simp
def glueS (l : List Pt) (x : List Pt × Int) : List Pt × Int := (l ++ x.1, x.2)
theorem scan_step (S : Bs.Bytes) (a f : Nat) (l : List Pt) (R : List Pt × Int) (ha : a ≤ S.length) (hf : S.length - a < f) (h : glueS l (scanF f a (S.drop a)) = R) :
  match Lx.nextR (S.drop a) with
  | .error (p, e) => R = (l ++ [⟨-1, [], 0, ((a + p : Nat) : Int)⟩], e)
  | .ok (t, n) => if t.kind = 0 then R = (l ++ [ptOf a t], 0) else a + n ≤ S.length ∧ 0 < n ∧ ∃ f', S.length - (a + n) < f' ∧ Hid (glueS (l ++ [ptOf a t]) (scanF f' (a + n) (S.drop (a + n))) = R) := by
 cases f with
 | zero => omega
 | succ f =>
  simp only [scanF] at h
  cases hn : Lx.nextR (S.drop a) with
  | error y =>
   obtain ⟨p, e⟩ := y
   rw [hn] at h
   exact h.symm
  | ok y =>
   obtain ⟨t, n⟩ := y
   rw [hn] at h
   simp only at h ⊢
   by_cases hk : t.kind = 0
   · rw [if_pos hk] at h ⊢
     exact h.symm
   rw [if_neg hk] at h ⊢
   obtain ⟨h1, h2⟩ := (Lx.nextR_ok _ t n hn).2 hk
   rw [List.length_drop] at h2
   refine ⟨by omega, h1, f, by omega, Lib.hid ?_⟩
   rw [List.drop_drop] at h
   rw [← h]
   simp [glueS]
theorem flatP_get : ∀ (l : List Pt) (i j : Nat), i < l.length → j < 4 → (flatP l)[i * 4 + j]? = (ptC (now l i))[j]?
 | [], i, j, h, _ => by simp at h
 | t :: l, 0, j, h, hj => by
  have e : flatP (t :: l) = ptC t ++ flatP l := rfl
  have hl : (ptC t).length = 4 := rfl
  rw [e, Nat.zero_mul, Nat.zero_add, List.getElem?_append_left (by omega)]
  rfl
 | t :: l, i + 1, j, h, hj => by
  have e : flatP (t :: l) = ptC t ++ flatP l := rfl
  have hl : (ptC t).length = 4 := rfl
  rw [e, List.getElem?_append_right (by omega), hl]
  have e2 : (i + 1) * 4 + j - 4 = i * 4 + j := by omega
  rw [e2, flatP_get l i j (by simp at h; omega) hj]
  rfl
theorem pr_of_own {kb gb cap B : Nat} {L : List Pt} {bad : Int} (h : w.ownsRow B KT 4 (.slice (some ⟨gb, 0, none⟩) L.length cap) L.length (flatP L)) (hb : Blk PT kb #[.slice (some ⟨gb, 0, none⟩) L.length cap, .int .i64 bad, .int .i64 0, .int .i64 0] w) (hne : gb ≠ kb) : Pr kb L gb cap bad 0 0 w := by
 have hlt := h.lt gb rfl
 have hcell : ∀ i, i < L.length → ∀ j, j < 4 → w.cell? ⟨gb, i * 4 + j, none⟩ = (ptC (now L i))[j]? := fun i hi j hj => by
  rw [h.cellAt _ (by omega), flatP_get L i j hi hj]
 refine ⟨hb, hne, hlt.2, fun i hi => ⟨hcell i hi 0 (by omega), hcell i hi 1 (by omega), hcell i hi 2 (by omega), hcell i hi 3 (by omega)⟩, ?_⟩
 rcases h.2 with ⟨h1, _⟩ | ⟨g, c, cur, h1, _, _, h3, h4, _⟩
 · cases h1
 cases h1
 exact ⟨h3, h4⟩
set_option maxRecDepth 100000 in
set_option maxHeartbeats 3200000 in
theorem scan_any (s : ByteArray) (w : World) (hps : Lx.PlS s) (hs : s.size ≤ 1048576) (hv : Lx.ErrVar w) :
  Calls Tryz.prog 36 #[.string s] w (fun e w' => ∃ kb tb tc, e = .returned (.pointer (some ⟨kb, 0, none⟩)) ∧ w.heap.size ≤ kb ∧ Pr kb (scanR s.data.toList).1 tb tc (scanR s.data.toList).2 0 0 w' ∧ Below w.heap.size w w') := by
 obtain ⟨i0, hi, hz0, hz1, hz2⟩ := info_parts (show (Tryz.prog.info? KT).map (fun i => (i.zero, i.size, i.bytes)) = some (some (.agg #[.int .i64 0, .string ⟨#[]⟩, .int .i64 0, .int .i64 0]), 4, 40) by kernel_rfl)
 have tsl : Tryz.prog.underlying 118 = some (.slice KT) := by kernel_rfl
 obtain ⟨R, hR⟩ : ∃ R, scanR s.data.toList = R := ⟨_, rfl⟩
 rw [hR]
 have hR0 : glueS [] (scanF (s.size + 1) 0 (s.data.toList.drop 0)) = R := by
  rw [← hR, List.drop_zero]
  show ([] ++ (scanF (s.size + 1) 0 s.data.toList).1, _) = scanF (s.data.toList.length + 1) 0 s.data.toList
  rfl
 have HR0 := Lib.hid hR0
 have HV := Lib.hid hv
 clear hR hR0 hv
 have hbbA := alloc_bel w (.cells #[.slice none 0 0, .int .i64 0, .int .i64 0, .int .i64 0] PT)
 have hMkA := Blk.made (T := PT) (cs := #[.slice none 0 0, .int .i64 0, .int .i64 0, .int .i64 0]) w
 have hszA : (w.alloc (.cells #[.slice none 0 0, .int .i64 0, .int .i64 0, .int .i64 0] PT)).heap.size = w.heap.size + 1 := by simp
 obtain ⟨W1, halA⟩ : ∃ W, w.alloc (.cells #[.slice none 0 0, .int .i64 0, .int .i64 0, .int .i64 0] PT) = W := ⟨_, rfl⟩
 rw [halA] at hMkA hszA
 clear hbbA
 have hb1 : Below w.heap.size w W1 := by rw [← halA]; exact alloc_bel w _
 have HB1 := Lib.hid hb1
 have HK1 := Lib.hid hMkA
 clear hb1 hMkA
 go_enter Tryz.func36, Tryz.ntmps36
 go_wp2_with fail
 go_loopw [4] (fun y wr => ∃ (a f : Nat) (l : List Pt) (ta : Option Addr) (tq : Nat), y = .int .i64 (a : Int) ∧ a ≤ s.size ∧ l.length ≤ a ∧ s.size - a < f ∧ Hid (glueS l (scanF f a (s.data.toList.drop a)) = R) ∧ Hid (wr.ownsRow (w.heap.size + 1) KT 4 (.slice ta l.length tq) l.length (flatP l)) ∧ Hid (Blk PT w.heap.size #[.slice ta l.length tq, .int .i64 0, .int .i64 0, .int .i64 0] wr) ∧ Hid (Below w.heap.size w wr) ∧ w.heap.size < wr.heap.size) (fun y _ => s.size - (intOf y).toNat)
 case atStart => exact ⟨0, s.size + 1, [], none, 0, rfl, Nat.zero_le _, Nat.le_refl _, by omega, HR0, Lib.hid (World.ownsRow_nil _ _ _ _), HK1, HB1, by omega⟩
 obtain ⟨a, f, l, ta, tq, rfl, ha, hla, hf, HEk, HOw, HKk, HBk, hlt⟩ := hrel
 have hmx : max 0 (min (a : Int) (s.size : Int)) = (a : Int) := by omega
 have hst := scan_step s.data.toList a f l R ha hf HEk.out
 have hN := Lx.Next_any s (a : Int) a wr hps (by omega) hmx (HV.out.below HBk.out)
 obtain ⟨x, hx⟩ : ∃ x, Lx.nextR (s.data.toList.drop a) = x := ⟨_, rfl⟩
 have herr := fun p n => Lx.nextR_err (s.data.toList.drop a) p n
 rw [hx] at hN hst herr
 have HN := Lib.hid hN
 have HST := Lib.hid hst
 clear hN hx hst hmx HEk HR0 HB1 HK1 halA
 go_wp2_with fail
 refine HN.out.mono ?_; intro e w2 ht
 obtain ⟨hb2, ht⟩ := ht
 have hs2 := hb2.size
 cases x with
 | error y =>
  obtain ⟨p, n⟩ := y
  subst ht
  have hn0 := herr p n rfl
  have hn1 : (n != 0) = true := by simpa using hn0
  have hRR : R = (l ++ [⟨-1, [], 0, ((a + p : Nat) : Int)⟩], n) := HST.out
  subst hRR
  obtain ⟨ap, hap⟩ : ∃ ap : Int, ((a + p : Nat) : Int) = ap := ⟨_, rfl⟩
  rw [hap]
  have e1 : Lx.tokV 0 ⟨0, [], 0, 0⟩ = .agg #[.int .i64 0, .string ⟨#[]⟩, .int .i64 0, .int .i64 0] := rfl
  rw [e1]
  have hO2 := Lib.hid (own_below HOw.out hb2)
  have hK2 := HKk.out.below hb2 (by omega)
  have hB2 := HBk.out.trans (hb2.mono (by have := HBk.out.size; omega))
  go_upto_region 4 with fail
  have hbbB := alloc_bel w2 (.cells #[.int .i64 0, .string ⟨#[]⟩, .int .i64 0, .int .i64 0] KT)
  have hMkB := Blk.made (T := KT) (cs := #[.int .i64 0, .string ⟨#[]⟩, .int .i64 0, .int .i64 0]) w2
  have hszB : (w2.alloc (.cells #[.int .i64 0, .string ⟨#[]⟩, .int .i64 0, .int .i64 0] KT)).heap.size = w2.heap.size + 1 := by simp
  have hK3 := hK2.alloc (.cells #[.int .i64 0, .string ⟨#[]⟩, .int .i64 0, .int .i64 0] KT)
  obtain ⟨W3, halB⟩ : ∃ W, w2.alloc (.cells #[.int .i64 0, .string ⟨#[]⟩, .int .i64 0, .int .i64 0] KT) = W := ⟨_, rfl⟩
  rw [halB] at hMkB hszB hK3
  clear hbbB
  have hO3 : W3.ownsRow (w.heap.size + 1) KT 4 (.slice ta l.length tq) l.length (flatP l) := by rw [← halB]; exact own_below hO2.out (alloc_bel w2 _)
  have hB3 : Below w.heap.size w W3 := by rw [← halB]; exact hB2.alloc (by omega) _
  have c0 := hK3.c 0 _ rfl
  have hbbC := alloc_bel W3 (.cells #[.int .i64 (-1), .string ⟨#[]⟩, .int .i64 0, .int .i64 ap] KT)
  have hMkC := Blk.made (T := KT) (cs := #[.int .i64 (-1), .string ⟨#[]⟩, .int .i64 0, .int .i64 ap]) W3
  have hszC : (W3.alloc (.cells #[.int .i64 (-1), .string ⟨#[]⟩, .int .i64 0, .int .i64 ap] KT)).heap.size = W3.heap.size + 1 := by simp
  have hK4 := hK3.alloc (.cells #[.int .i64 (-1), .string ⟨#[]⟩, .int .i64 0, .int .i64 ap] KT)
  obtain ⟨W4, halC⟩ : ∃ W, W3.alloc (.cells #[.int .i64 (-1), .string ⟨#[]⟩, .int .i64 0, .int .i64 ap] KT) = W := ⟨_, rfl⟩
  rw [halC] at hMkC hszC hK4
  clear hbbC
  have hO4 : W4.ownsRow (w.heap.size + 1) KT 4 (.slice ta l.length tq) l.length (flatP l) := by rw [← halC]; exact own_below hO3 (alloc_bel W3 _)
  have hB4 : Below w.heap.size w W4 := by rw [← halC]; exact hB3.alloc (by omega) _
  rw [hszB] at hMkC
  have hnews := World.news_of_block hMkC
  have HO4 := Lib.hid hO4
  have HB4 := Lib.hid hB4
  have HK4 := Lib.hid hK4
  have HNEWS := Lib.hid hnews
  clear hK2 hB2 hO3 hB3 hO4 hB4 hK4 hK3 hnews hMkB hMkC HOw HKk HBk hO2 hb2 HST herr hn0 e1
  go_wp2_with (at_builtin; refine wpList_append_lies _ rfl _ _ 118 rfl (w.heap.size + 1) KT i0 (.agg #[.int .i64 0, .string ⟨#[]⟩, .int .i64 0, .int .i64 0]) 4 40 tsl hi hz0 hz1 hz2 rfl (by decide) _ l.length (flatP l) rfl HO4.out ⟨w2.heap.size + 1, 0, none⟩ 1 1 [.int .i64 (-1), .string ⟨#[]⟩, .int .i64 0, .int .i64 ap] rfl rfl HNEWS.out (fun u hu => by simp at hu; rcases hu with rfl | rfl | rfl | rfl <;> rfl) (by decide) (by unfold maxLen; omega) (by omega) (by omega) _ rfl ?_)
  intro g cp w5 hown5 hgrow hg hg5
  have hKe := blk_grown_at HK4.out hgrow HO4.out (by omega)
  have hbe := HB4.out.grown hgrow HB4.out.size (fun k hk => by have := (HO4.out.lt k hk).1; omega)
  have hgB : w.heap.size + 1 ≤ g := (hown5.lt g rfl).1
  have e0 := hKe.c 0 _ rfl
  have e1 := hKe.c 1 _ rfl
  have ef := hKe.fz
  rw [show ([Value.int .i64 (-1), .string ⟨#[]⟩, .int .i64 0, .int .i64 ap] : List Value) = ptC ⟨-1, [], 0, ap⟩ from rfl, ← flatP_snoc] at hown5
  have HOE := Lib.hid hown5
  have HKE := Lib.hid hKe
  have HBE := Lib.hid hbe
  clear hown5 hKe hbe hgrow hg HO4 HB4 HK4 HNEWS halB halC hszB hszC
  go_wp2_with fail
  refine bodyPost_ret (v := .pointer (some ⟨w.heap.size, 0, none⟩)) (by simp [results, Tryz.results36, go_sem]) rfl ?_
  refine ⟨w.heap.size, rfl, Nat.le_refl _, ⟨g, cp, pr_of_own (B := w.heap.size + 1) ?_ ?_ (by omega)⟩, (HBE.out.setCell (p := ⟨w.heap.size, 0, none⟩) (Nat.le_refl _) _).setCell (p := ⟨w.heap.size, 1, none⟩) (Nat.le_refl _) _⟩
  · have := own_set_at (own_set_at HOE.out (Nat.lt_succ_self _) 0 (.slice (some ⟨g, 0, none⟩) (l.length + 1) cp)) (Nat.lt_succ_self _) 1 (.int .i64 n)
    simpa using this
  have := (HKE.out.set_ 0 (.slice (some ⟨g, 0, none⟩) (l.length + 1) cp) _ rfl).set_ 1 (.int .i64 n) _ rfl
  simpa using this
 | ok y =>
  obtain ⟨t, n⟩ := y
  subst ht
  clear herr
  obtain ⟨kd, wd, nn, aa, hV, hkd, hC⟩ : ∃ (kd : Int) (wd : ByteArray) (nn aa : Int), Lx.tokV a t = .agg #[.int .i64 kd, .string wd, .int .i64 nn, .int .i64 aa] ∧ kd = (t.kind : Int) ∧ ptC (ptOf a t) = [.int .i64 kd, .string wd, .int .i64 nn, .int .i64 aa] := ⟨_, _, _, _, rfl, rfl, rfl⟩
  rw [hV]
  have HC := Lib.hid hC
  clear hV hC
  obtain ⟨an, han⟩ : ∃ an : Int, ((a + n : Nat) : Int) = an := ⟨_, rfl⟩
  rw [han]
  have HAN := Lib.hid han
  clear han
  have HKD := Lib.hid hkd
  clear hkd
  have hO2 := Lib.hid (own_below HOw.out hb2)
  have hK2 := HKk.out.below hb2 (by omega)
  have hB2 := HBk.out.trans (hb2.mono (by have := HBk.out.size; omega))
  have hrow : ∀ k, (Value.slice ta l.length tq).ownBlock = some k → w.heap.size + 1 ≤ k ∧ k < w2.heap.size := fun k hk => ⟨(HOw.out.lt k hk).1, Nat.lt_of_lt_of_le (HOw.out.lt k hk).2 hs2⟩
  have HROW := Lib.hid hrow
  clear hrow
  go_upto_region 7 with fail
  have hbbB := alloc_bel w2 (.cells #[.int .i64 kd, .string wd, .int .i64 nn, .int .i64 aa] KT)
  have hMkB := Blk.made (T := KT) (cs := #[.int .i64 kd, .string wd, .int .i64 nn, .int .i64 aa]) w2
  have hszB : (w2.alloc (.cells #[.int .i64 kd, .string wd, .int .i64 nn, .int .i64 aa] KT)).heap.size = w2.heap.size + 1 := by simp
  have hK3 := hK2.alloc (.cells #[.int .i64 kd, .string wd, .int .i64 nn, .int .i64 aa] KT)
  obtain ⟨W3, halB⟩ : ∃ W, w2.alloc (.cells #[.int .i64 kd, .string wd, .int .i64 nn, .int .i64 aa] KT) = W := ⟨_, rfl⟩
  rw [halB] at hMkB hszB hK3
  clear hbbB
  have hO3 : W3.ownsRow (w.heap.size + 1) KT 4 (.slice ta l.length tq) l.length (flatP l) := by rw [← halB]; exact own_below hO2.out (alloc_bel w2 _)
  have hB3 : Below w.heap.size w W3 := by rw [← halB]; exact hB2.alloc (by omega) _
  have HO3 := Lib.hid hO3
  have HB3 := Lib.hid hB3
  have HK3 := Lib.hid hK3
  have HT3 := Lib.hid hMkB
  clear hK2 hB2 hO2 hO3 hB3 hK3 hMkB HOw HKk HBk hb2
  rw [halB]
  have hS : ∀ v, Blk PT w.heap.size #[.slice ta l.length tq, .int .i64 0, .int .i64 0, .int .i64 0] v ∧ Blk KT w2.heap.size #[.int .i64 kd, .string wd, .int .i64 nn, .int .i64 aa] v → (fun v => (v.cell? ⟨w.heap.size, 0, none⟩ = some (.slice ta l.length tq) ∧ v.cell? ⟨w2.heap.size, 0, none⟩ = some (.int .i64 kd) ∧ v.cell? ⟨w2.heap.size, 1, none⟩ = some (.string wd) ∧ v.cell? ⟨w2.heap.size, 2, none⟩ = some (.int .i64 nn) ∧ v.cell? ⟨w2.heap.size, 3, none⟩ = some (.int .i64 aa))) v := fun v hv => ⟨hv.1.c 0 _ rfl, hv.2.c 0 _ rfl, hv.2.c 1 _ rfl, hv.2.c 2 _ rfl, hv.2.c 3 _ rfl⟩
  refine wp_region_noPanic ?_
  refine Hd.start (fun v => (v.cell? ⟨w.heap.size, 0, none⟩ = some (.slice ta l.length tq) ∧ v.cell? ⟨w2.heap.size, 0, none⟩ = some (.int .i64 kd) ∧ v.cell? ⟨w2.heap.size, 1, none⟩ = some (.string wd) ∧ v.cell? ⟨w2.heap.size, 2, none⟩ = some (.int .i64 nn) ∧ v.cell? ⟨w2.heap.size, 3, none⟩ = some (.int .i64 aa))) (by kernel_rfl) (hS _ ⟨HK3.out.drewN 1, HT3.out.drewN 1⟩) (fun hH0 => ?_)
  refine Hd.tk 0 8 hH0 ?_
  refine Hd.tk 1 2 hH0 ?_
  refine Hd.tk 2 3 hH0 ?_
  refine Hd.tk 3 4 hH0 ?_
  refine Hd.tk 4 7 hH0 ?_
  refine Hd.tk 5 6 hH0 ?_
  have hK3 : Blk PT w.heap.size #[.slice ta l.length tq, .int .i64 0, .int .i64 0, .int .i64 0] W3.drew := HK3.out.drewN 1
  have hT3 : Blk KT w2.heap.size #[.int .i64 kd, .string wd, .int .i64 nn, .int .i64 aa] W3.drew := HT3.out.drewN 1
  have hbbC := alloc_bel W3.drew (.cells #[.int .i64 kd, .string wd, .int .i64 nn, .int .i64 aa] KT)
  have hMkC := Blk.made (T := KT) (cs := #[.int .i64 kd, .string wd, .int .i64 nn, .int .i64 aa]) W3.drew
  have hszC : (W3.drew.alloc (.cells #[.int .i64 kd, .string wd, .int .i64 nn, .int .i64 aa] KT)).heap.size = W3.drew.heap.size + 1 := by simp
  have hK4 := hK3.alloc (.cells #[.int .i64 kd, .string wd, .int .i64 nn, .int .i64 aa] KT)
  have hT4 := hT3.alloc (.cells #[.int .i64 kd, .string wd, .int .i64 nn, .int .i64 aa] KT)
  obtain ⟨W4, halC⟩ : ∃ W, W3.drew.alloc (.cells #[.int .i64 kd, .string wd, .int .i64 nn, .int .i64 aa] KT) = W := ⟨_, rfl⟩
  rw [halC] at hMkC hszC hK4 hT4
  clear hbbC
  have hO4 : W4.ownsRow (w.heap.size + 1) KT 4 (.slice ta l.length tq) l.length (flatP l) := by
   rw [← halC]
   exact own_below (w := W3) HO3.out ((Below.refl _ _).drew.trans (alloc_bel W3.drew _))
  have hB4 : Below w.heap.size w W4 := by rw [← halC]; exact HB3.out.drew.alloc (by show w.heap.size ≤ W3.heap.size; omega) _
  have hszC : W4.heap.size = W3.heap.size + 1 := hszC
  have hMkC : Blk KT W3.heap.size #[.int .i64 kd, .string wd, .int .i64 nn, .int .i64 aa] W4 := hMkC
  rw [hszB] at hMkC hszC
  have hnews := World.news_of_block hMkC
  have HO4 := Lib.hid hO4
  have HB4 := Lib.hid hB4
  have HK4 := Lib.hid hK4
  have HT4 := Lib.hid hT4
  have HNEWS := Lib.hid hnews
  clear hK3 hT3 hO4 hB4 hK4 hT4 hnews hMkC HO3 HB3 HK3 HT3
  refine Hd.on 6 (fun K hK => ?_)
  go_simp
  go_wp2_with fail
  refine hK.out _ _ (hS _ ⟨HK4.out, HT4.out⟩) (fun hH1 => ?_)
  clear hK K
  try simp only [Act.put, Hd.sa, Hd.sz, Hd.ss]
  refine Hd.on 7 (fun K hK => ?_)
  refine step_append_lies _ rfl (.tmp 39) (.tmp 41) 118 rfl (w.heap.size + 1) KT i0 (.agg #[.int .i64 0, .string ⟨#[]⟩, .int .i64 0, .int .i64 0]) 4 40 tsl hi hz0 hz1 hz2 rfl (by decide) _ l.length (flatP l) (by simp [Act.eval]) HO4.out ⟨w2.heap.size + 1, 0, none⟩ 1 1 [.int .i64 kd, .string wd, .int .i64 nn, .int .i64 aa] (by simp [Act.eval, hszB]) rfl HNEWS.out (fun u hu => by simp at hu; rcases hu with rfl | rfl | rfl | rfl <;> rfl) (by decide) (by unfold maxLen; omega) (by omega) (by omega) _ rfl ?_
  intro g cp w5 hown5 hgrow hg hg5
  have hKe := blk_grown_at HK4.out hgrow HO4.out (by omega)
  have hTe : Blk KT w2.heap.size #[.int .i64 kd, .string wd, .int .i64 nn, .int .i64 aa] w5 := (hgrow.block _ (by omega) (fun h => by have := HROW.out _ h.symm; omega)).trans HT4.out
  have hbe := HB4.out.grown hgrow HB4.out.size (fun k hk => by have := (HO4.out.lt k hk).1; omega)
  have hgB : w.heap.size + 1 ≤ g := (hown5.lt g rfl).1
  have hgN : g ≠ w2.heap.size := by
   rcases hg with hg | hg
   · have := HROW.out _ hg; omega
   omega
  rw [← HC.out, ← flatP_snoc] at hown5
  have HOE := Lib.hid hown5
  have HKE := Lib.hid hKe
  have HTE := Lib.hid hTe
  have HBE := Lib.hid hbe
  clear hown5 hKe hbe hTe hgrow hg HO4 HB4 HK4 HT4 HNEWS halB halC hszC
  refine hK.out _ _ (hS _ ⟨HKE.out, HTE.out⟩) (fun hH2 => ?_)
  clear hK K
  try simp only [Act.put, Hd.sa, Hd.sz, Hd.ss]
  refine Hd.tk 8 9 hH2 ?_
  refine Hd.tk 9 10 hH2 ?_
  have e0 := HKE.out.c 0 _ rfl
  have ef := HKE.out.fz
  refine Hd.la 10 (fun K hK => ?_)
  go_simp
  refine hK.out _ _ ?_
  clear hK K
  try simp only [Act.put, Hd.sa, Hd.sz, Hd.ss]
  simp only [NoPanic]
  have hb7 := HBE.out.setCell (p := ⟨w.heap.size, 0, none⟩) (Nat.le_refl _) (.slice (some ⟨g, 0, none⟩) (l.length + 1) cp)
  have ho7 := own_set_at HOE.out (Nat.lt_succ_self w.heap.size) 0 (.slice (some ⟨g, 0, none⟩) (l.length + 1) cp)
  have hk7 := HKE.out.set_ 0 (.slice (some ⟨g, 0, none⟩) (l.length + 1) cp) _ rfl
  have ht7 := HTE.out.far (p := ⟨w.heap.size, 0, none⟩) (show w2.heap.size ≠ w.heap.size by omega) (.slice (some ⟨g, 0, none⟩) (l.length + 1) cp)
  obtain ⟨W7, hW7⟩ : ∃ W, w5.setCell ⟨w.heap.size, 0, none⟩ (.slice (some ⟨g, 0, none⟩) (l.length + 1) cp) = W := ⟨_, rfl⟩
  rw [hW7] at hb7 ho7 hk7 ht7 ⊢
  have q0 := ht7.c 0 _ rfl
  have hl1 : (l ++ [ptOf a t]).length = l.length + 1 := by simp
  by_cases hk : t.kind = 0
  · have hk1 : (kd == 0) = true := by rw [HKD.out, hk]; rfl
    have hRR : R = (l ++ [ptOf a t], 0) := by have := HST.out; rwa [if_pos hk] at this
    subst hRR
    have HK7 := Lib.hid hk7
    have HO7 := Lib.hid ho7
    have HB7 := Lib.hid hb7
    clear hk7 ho7 hb7 ht7 hW7 hk HOE HKE HTE HBE
    go_wp2_with fail
    refine bodyPost_ret (v := .pointer (some ⟨w.heap.size, 0, none⟩)) (by simp [results, Tryz.results36, go_sem]) rfl ?_
    refine ⟨w.heap.size, rfl, Nat.le_refl _, ⟨g, cp, pr_of_own (B := w.heap.size + 1) ?_ ?_ (by omega)⟩, HB7.out⟩
    · simpa using HO7.out
    simpa using HK7.out
  have hk1 : (kd == 0) = false := by rw [HKD.out, beq_eq_false_iff_ne]; omega
  obtain ⟨ha2, hn0, f', hf', HE'⟩ : a + n ≤ s.data.toList.length ∧ 0 < n ∧ ∃ f', s.data.toList.length - (a + n) < f' ∧ Hid (glueS (l ++ [ptOf a t]) (scanF f' (a + n) (s.data.toList.drop (a + n))) = R) := by
   have := HST.out; rwa [if_neg hk] at this
  have ha2 : a + n ≤ s.size := ha2
  have hf' : s.size - (a + n) < f' := hf'
  have hsz7 : w.heap.size < W7.heap.size := hk7.lt
  have HK7 := Lib.hid hk7
  have HO7 := Lib.hid ho7
  have HB7 := Lib.hid hb7
  clear hk7 ho7 hb7 ht7 hW7 hk HOE HKE HTE HBE
  go_wp2_with fail
  exact ⟨⟨a + n, f', l ++ [ptOf a t], some ⟨g, 0, none⟩, cp, by rw [HAN.out], ha2, by rw [hl1]; omega, hf', HE', Lib.hid (by rw [hl1]; exact HO7.out), Lib.hid (by rw [hl1]; exact HK7.out), HB7, hsz7⟩, by rw [← HAN.out]; simp only [intOf]; omega⟩
end
end Pa
end Go.Proofs.YtmmgfifpjifjnaaGreatDoor
