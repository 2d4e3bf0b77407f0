/- Package scope, the walk, 4: declare. · Package scope, the walk, 5: names. · Package scope, the walk, 6: variable, super (wip/gen/gen_rvw6.py prints this). · Package scope, the walk, 7: what resolving hands back; all (wip/gen/gen_rvw7.py prints this). -/
import Derived.Test.YtmmgfifpjifjnaaGreatDoorRvB
import Derived.Deep.DeepCutAuto
import Derived.WalkLawsBesides
import Derived.BigQuiet
set_option linter.unusedVariables false
namespace Go.Proofs.YtmmgfifpjifjnaaGreatDoor
open Go.RowKit
namespace Rv
open Bs Sm Tr
theorem own_set_ne {w : World} {B e size n k : Nat} {v : Value} {xs : List Value} (h : w.ownsRow B e size v n xs) (hne : v.ownBlock ≠ some k) (i : Nat) (u : Value) : (w.setCell ⟨k, i, none⟩ u).ownsRow B e size v n xs :=
 h.kept (row := some k) ⟨rfl, rfl, rfl, by simp [World.setCell], fun j _ hj => Below.heap_setCell _ _ _ _ (fun e => hj (by simp [e]))⟩ (.inr hne)
def fltR (a n : Int) : Value := .iface 66 (.agg #[.int .i64 a, .int .i64 n])
def Fel (B : Nat) (E : Int × Int) (w : World) (e : Ending) (w' : World) : Prop := e = .panicked [{ v := fltR E.1 E.2, recovered := false }] ∧ Below B w w'
section
variable {B b : Nat} {F G : List Bytes} {kv fv gv : Value} {Kl : List Kn} {n : Nat} {w : World}
def DeO (B b : Nat) (F G : List Bytes) (kv fv gv : Value) (x : RE (List Kn × Nat)) (w : World) (e : Ending) (w' : World) : Prop :=
 match x with
 | .error E => Fel B E w e w'
 | .ok (Kl, n) => e = .returned (.tuple #[]) ∧ ∃ kv', Rs B b F G kv' fv gv Kl n w' ∧ Near w kv kv' ∧ Mv2 b kv.ownBlock w w'
def bad1 (F : List Bytes) (Kl : List Kn) (s : Bytes) : Bool := (findK Kl s).isSome || decide (0 ≤ fieldF F s)
def bad2 (s : Bytes) : Bool := pseu s != 0 || s == supS
def bad3 (n p : Nat) : Bool := decide (60 ≤ n) || decide (12 < p)
def lst1 (F : List Bytes) (Kl : List Kn) (s : Bytes) : Int := if bad1 F Kl s then 7 else 15
def lst2 (F : List Bytes) (Kl : List Kn) (s : Bytes) : Int := if bad2 s then min (lst1 F Kl s) 11 else lst1 F Kl s
def lst3 (F : List Bytes) (Kl : List Kn) (n : Nat) (s : Bytes) (p : Nat) : Int := if bad3 n p then min (lst2 F Kl s) 2 else lst2 F Kl s
theorem lst_declE (F : List Bytes) (Kl : List Kn) (n : Nat) (s : Bytes) (p : Nat) : declE F Kl n s p = if lst3 F Kl n s p = 15 then 0 else lst3 F Kl n s p := by
 unfold declE lst3 lst2 lst1 bad1 bad2 bad3
 by_cases h3 : 60 ≤ n ∨ 12 < p
 · have e3 : (decide (60 ≤ n) || decide (12 < p)) = true := by simpa using h3
   rw [if_pos h3, e3]
   simp only [if_true]
   cases h1 : ((findK Kl s).isSome || decide (0 ≤ fieldF F s)) <;> cases h2 : (pseu s != 0 || s == supS) <;> rfl
 have e3 : (decide (60 ≤ n) || decide (12 < p)) = false := by simpa using h3
 rw [if_neg h3, e3]
 by_cases h1 : (findK Kl s).isSome ∨ 0 ≤ fieldF F s
 · have e1 : ((findK Kl s).isSome || decide (0 ≤ fieldF F s)) = true := by simpa using h1
   rw [if_pos h1, e1]
   cases h2 : (pseu s != 0 || s == supS) <;> rfl
 have e1 : ((findK Kl s).isSome || decide (0 ≤ fieldF F s)) = false := by simpa using h1
 rw [if_neg h1, e1]
 by_cases h2 : pseu s ≠ 0 ∨ s = supS
 · have e2 : (pseu s != 0 || s == supS) = true := by simpa using h2
   rw [if_pos h2, e2]; rfl
 have e2 : (pseu s != 0 || s == supS) = false := by simpa using h2
 rw [if_neg h2, e2]; rfl
set_option maxRecDepth 100000 in
set_option maxHeartbeats 3200000 in
theorem declare_any (s : Bytes) (p : Nat) (at_ : Int) (h : Rs B b F G kv fv gv Kl n w) (hp : p ≤ 100000) (hn : n ≤ 60) (hK : Kl.length ≤ 100000) :
  Calls Tryz.prog 47 #[.pointer (some ⟨b, 0, none⟩), .string ⟨s.toArray⟩, .int .i64 (p : Int), .int .i64 at_] w (DeO B b F G kv fv gv (declL F at_ [(s, p)] Kl n) w) := by
 have hlo := h.lo
 have hlt := h.blk.lt
 have HF := Lib.hid (fun w' (hb : Below w.heap.size w w') => find_any s (h.bel hb))
 have HG := Lib.hid (fun w' (hb : Below w.heap.size w w') => field_any s (h.bel hb))
 have HP := Lib.hid (fun w' => pseudo_any s w')
 obtain ⟨R, hR⟩ : ∃ R, declL F at_ [(s, p)] Kl n = R := ⟨_, rfl⟩
 rw [hR]
 have hl := lst_declE F Kl n s p
 obtain ⟨l3, h3⟩ : ∃ l, lst3 F Kl n s p = l := ⟨_, rfl⟩
 obtain ⟨l2, h2⟩ : ∃ l, lst2 F Kl s = l := ⟨_, rfl⟩
 obtain ⟨l1, h1⟩ : ∃ l, lst1 F Kl s = l := ⟨_, rfl⟩
 obtain ⟨q1, g1⟩ : ∃ q, bad1 F Kl s = q := ⟨_, rfl⟩
 obtain ⟨q2, g2⟩ : ∃ q, bad2 s = q := ⟨_, rfl⟩
 obtain ⟨q3, g3⟩ : ∃ q, bad3 n p = q := ⟨_, rfl⟩
 rw [h3] at hl
 unfold lst3 at h3
 rw [g3, h2] at h3
 unfold lst2 at h2
 rw [g2, h1] at h2
 unfold lst1 at h1
 rw [g1] at h1
 unfold bad1 at g1
 unfold bad2 at g2
 unfold bad3 at g3
 obtain ⟨fk, hfk⟩ : ∃ x, findK Kl s = x := ⟨_, rfl⟩
 obtain ⟨fd, hfd⟩ : ∃ x, fieldF F s = x := ⟨_, rfl⟩
 obtain ⟨ps, hps⟩ : ∃ x, pseu s = x := ⟨_, rfl⟩
 rw [hfk] at HF g1
 rw [hfd] at HG g1
 rw [hps] at HP g2
 obtain ⟨fs, hfs⟩ : ∃ x, fk.isSome = x := ⟨_, rfl⟩
 obtain ⟨fkv, hfkv⟩ : ∃ x, knO fk = x := ⟨_, rfl⟩
 obtain ⟨pb, hpb⟩ : ∃ x, (ps != 0) = x := ⟨_, rfl⟩
 rw [hfs, hfkv] at HF
 rw [hfs] at g1
 rw [hpb] at HP g2
 obtain ⟨f0, f1, f2, hf3⟩ : ∃ (f0 : ByteArray) (f1 : Int) (f2 : Bool), fkv = .agg #[.string f0, .int .i64 f1, .bool f2] := by
  rw [← hfkv]
  cases fk with
  | none => exact ⟨_, _, _, rfl⟩
  | some k => exact ⟨_, _, _, rfl⟩
 subst hf3
 have HH := Lib.hid h
 have G1 := Lib.hid g1
 have G2 := Lib.hid g2
 have G3 := Lib.hid g3
 have H1 := Lib.hid h1
 have H2 := Lib.hid h2
 have H3 := Lib.hid h3
 have HL := Lib.hid hl
 have HR := Lib.hid hR
 clear h hl hR h1 h2 h3 g1 g2 g3 hfk hfd hps hfs hfkv hpb
 go_enter Tryz.func47, Tryz.ntmps47
 go_wp2_with fail
 refine (HF.out w (Below.refl _ _)).mono ?_; rintro e w1 ⟨rfl, hb1⟩
 have HB1 := Lib.hid hb1
 clear hb1
 go_upto_region 2 with fail
 have HA2 := Lib.hid (HB1.out.trans ((alloc_bel w1 (.cells #[.string f0, .int .i64 f1, .bool f2] KNT)).mono HB1.out.size))
 go_cut [25] (fun s25 wx => s25 = .bool q1 ∧ Hid (Below w.heap.size w wx))
 case first =>
  cases fs with
  | true =>
   have e1 : q1 = true := by have := G1.out; simpa using this.symm
   go_wp2_with fail
   go_meet
   exact ⟨by rw [e1], HA2⟩
  | false =>
   have e1 : decide (0 ≤ fd) = q1 := by have := G1.out; simpa using this
   go_wp2_with fail
   refine (HG.out _ HA2.out).mono ?_; rintro e w2 ⟨rfl, hb2⟩
   have HB2 := Lib.hid (HA2.out.trans (hb2.mono HA2.out.size))
   clear hb2
   go_wp2_with fail
   go_meet
   exact ⟨by rw [← e1], HB2⟩
 case rest =>
 obtain ⟨rfl, hb2⟩ := hcut
 clear HA2
 go_upto_if 25 with fail
 go_cut [8] (fun s8 wx => s8 = .int .i64 l1 ∧ Hid (Below w.heap.size w wx))
 case first =>
  have h1 := H1.out
  cases q1 with
  | true =>
   go_wp2_with fail
   go_meet
   exact ⟨by rw [← h1]; rfl, hb2⟩
  | false =>
   go_wp2_with fail
   go_meet
   exact ⟨by rw [← h1]; rfl, hb2⟩
 case rest =>
 obtain ⟨rfl, hb3⟩ := hcut
 clear hb2
 go_wp2_with fail
 refine (HP.out wc).mono ?_; rintro e w4 ⟨rfl, hb4⟩
 have HB4 := Lib.hid (hb3.out.trans (hb4.mono hb3.out.size))
 clear hb4 hb3
 go_upto_region 5 with fail
 go_cut [35] (fun s35 wx => s35 = .bool q2 ∧ Hid (Below w.heap.size w wx))
 case first =>
  cases pb with
  | true =>
   have e1 : q2 = true := by have := G2.out; simpa using this.symm
   go_wp2_with fail
   go_meet
   exact ⟨by rw [e1], HB4⟩
  | false =>
   have e1 : (s == supS) = q2 := by have := G2.out; simpa using this
   go_wp2_with fail
   go_meet
   exact ⟨by rw [← e1]; rfl, HB4⟩
 case rest =>
 obtain ⟨rfl, hb5⟩ := hcut
 clear HB4
 go_upto_if 35 with fail
 go_cut [8] (fun s8 wx => s8 = .int .i64 l2 ∧ Hid (Below w.heap.size w wx))
 case first =>
  have h2 := H2.out
  cases q2 with
  | true =>
   go_wp2_with fail
   go_meet
   exact ⟨by rw [← h2]; rfl, hb5⟩
  | false =>
   go_wp2_with fail
   go_meet
   exact ⟨by rw [← h2]; rfl, hb5⟩
 case rest =>
 obtain ⟨rfl, hb6⟩ := hcut
 clear hb5
 go_upto_region 7 with fail
 go_cut [46] (fun s46 wx => s46 = .bool q3 ∧ Hid (Below w.heap.size w wx))
 case first =>
  have hh := HH.out.bel hb6.out
  have c1 := hh.blk.c 1 _ rfl
  by_cases hs : 60 ≤ n
  · have e0 : decide ((60 : Int) ≤ (n : Int)) = true := decide_eq_true (by omega)
    have e1 : q3 = true := by have := G3.out; rw [decide_eq_true hs] at this; exact this.symm
    go_wp2_with fail
    go_meet
    exact ⟨by rw [e1], hb6⟩
  have e0 : decide ((60 : Int) ≤ (n : Int)) = false := decide_eq_false (by omega)
  have e1 : decide ((12 : Int) < (p : Int)) = q3 := by
   have := G3.out
   rw [decide_eq_false hs, Bool.false_or] at this
   rw [← this]
   by_cases hp12 : 12 < p
   · rw [decide_eq_true hp12, decide_eq_true (by omega)]
   rw [decide_eq_false hp12, decide_eq_false (by omega)]
  go_wp2_with fail
  go_meet
  exact ⟨by rw [← e1], hb6⟩
 case rest =>
 obtain ⟨rfl, hb7⟩ := hcut
 clear hb6
 go_upto_if 46 with fail
 go_cut [8] (fun s8 wx => s8 = .int .i64 l3 ∧ Hid (Below w.heap.size w wx))
 case first =>
  have h3 := H3.out
  cases q3 with
  | true =>
   go_wp2_with fail
   go_meet
   exact ⟨by rw [← h3]; rfl, hb7⟩
  | false =>
   go_wp2_with fail
   go_meet
   exact ⟨by rw [← h3]; rfl, hb7⟩
 case rest =>
 obtain ⟨rfl, hb8⟩ := hcut
 clear hb7
 have hR := HR.out
 have hl := HL.out
 unfold declL at hR
 rw [hl] at hR
 by_cases h15 : l3 = 15
 · have hne : (l3 != 15) = false := by rw [h15]; rfl
   rw [if_pos h15, if_neg (by simp)] at hR
   unfold declL at hR
   subst hR
   clear h15 hl
   have hh := HH.out.bel hb8.out
   obtain ⟨i0, hi, hz0, hz1, hz2⟩ := info_parts (show (Tryz.prog.info? KNT).map (fun i => (i.zero, i.size, i.bytes)) = some (some (.agg #[.string ⟨#[]⟩, .int .i64 0, .bool false]), 3, 32) by kernel_rfl)
   have tsl : Tryz.prog.underlying 68 = some (.slice KNT) := by kernel_rfl
   obtain ⟨ka, kc, rfl⟩ := hh.form
   have hrow := hh.row
   have hlw := hh.blk.lt
   have hnk := hh.ne
   have hob : ∀ k, (Value.slice ka Kl.length kc).ownBlock = some k → B ≤ k ∧ k < wc.heap.size := hh.row.lt
   have hS : ∀ v, Blk RT b #[.slice ka Kl.length kc, .int .i64 (n : Int), fv, gv] v → (fun v => v.cell? ⟨b, 0, none⟩ = some (.slice ka Kl.length kc) ∧ v.cell? ⟨b, 1, none⟩ = some (.int .i64 (n : Int))) v := fun v hv => ⟨hv.c 0 _ rfl, hv.c 1 _ rfl⟩
   have HHC := Lib.hid hh
   have HOB := Lib.hid hob
   have HNK := Lib.hid hnk
   clear hh hrow hnk hob
   go_upto_region 11 with fail
   refine wp_region_noPanic ?_
   refine Hd.start (fun v => v.cell? ⟨b, 0, none⟩ = some (.slice ka Kl.length kc) ∧ v.cell? ⟨b, 1, none⟩ = some (.int .i64 (n : Int))) (by kernel_rfl) (hS _ (HHC.out.blk.drewN 1)) (fun hH0 => ?_)
   refine Hd.tk 0 15 hH0 ?_
   refine Hd.tk 1 2 hH0 ?_
   refine Hd.tk 2 3 hH0 ?_
   refine Hd.tk 3 4 hH0 ?_
   refine Hd.tk 4 14 hH0 ?_
   refine Hd.tk 5 12 hH0 ?_
   refine Hd.tk 6 7 hH0 ?_
   refine Hd.tk 7 8 hH0 ?_
   refine Hd.tk 8 9 hH0 ?_
   refine Hd.tk 9 12 hH0 ?_
   refine Hd.tk 10 11 hH0 ?_
   refine Hd.tk 11 12 hH0 ?_
   refine Hd.tk 12 13 hH0 ?_
   have hK3 : Blk RT b #[.slice ka Kl.length kc, .int .i64 (n : Int), fv, gv] wc.drew := HHC.out.blk.drewN 1
   have hbbC := alloc_bel wc.drew (.cells #[.string ⟨s.toArray⟩, .int .i64 (n : Int), .bool (p == 0)] KNT)
   have hMkC := Blk.made (T := KNT) (cs := #[.string ⟨s.toArray⟩, .int .i64 (n : Int), .bool (p == 0)]) wc.drew
   have hszC : (wc.drew.alloc (.cells #[.string ⟨s.toArray⟩, .int .i64 (n : Int), .bool (p == 0)] KNT)).heap.size = wc.drew.heap.size + 1 := by simp
   have hK4 := hK3.alloc (.cells #[.string ⟨s.toArray⟩, .int .i64 (n : Int), .bool (p == 0)] KNT)
   have hpp : ((p : Int) == 0) = (p == 0) := by
    by_cases h : p = 0
    · subst h; rfl
    rw [show (p == 0) = false by simpa using h, beq_eq_false_iff_ne]; omega
   obtain ⟨W4, halC⟩ : ∃ W, wc.drew.alloc (.cells #[.string ⟨s.toArray⟩, .int .i64 (n : Int), .bool (p == 0)] KNT) = W := ⟨_, rfl⟩
   rw [halC] at hMkC hszC hK4
   have hszC : W4.heap.size = wc.heap.size + 1 := hszC
   have hMkC : Blk KNT wc.heap.size #[.string ⟨s.toArray⟩, .int .i64 (n : Int), .bool (p == 0)] W4 := hMkC
   have hO4 : W4.ownsRow B KNT 3 (.slice ka Kl.length kc) Kl.length (flatK Kl) := by rw [← halC]; exact own_below (w := wc) HHC.out.row ((Below.refl _ _).drew.trans (alloc_bel wc.drew _))
   have hb4 : Below wc.heap.size wc W4 := by rw [← halC]; exact (Below.refl _ _).drew.trans (alloc_bel wc.drew _)
   have hnews := World.news_of_block hMkC
   have HO4 := Lib.hid hO4
   have HB4 := Lib.hid hb4
   have HK4 := Lib.hid hK4
   have HNEWS := Lib.hid hnews
   clear hK3 hbbC hO4 hb4 hK4 hnews hMkC
   refine Hd.on 13 (fun K hK => ?_)
   go_simp
   refine hK.out _ _ (hS _ HK4.out) (fun hH1 => ?_)
   clear hK K
   try simp only [Act.put, Hd.sa, Hd.sz, Hd.ss]
   refine Hd.on 14 (fun K hK => ?_)
   refine step_append_lies _ rfl (.tmp 59) (.tmp 68) 68 rfl B KNT i0 (.agg #[.string ⟨#[]⟩, .int .i64 0, .bool false]) 3 32 tsl hi hz0 hz1 hz2 rfl (by decide) _ Kl.length (flatK Kl) (by simp [Act.eval]) HO4.out ⟨wc.heap.size, 0, none⟩ 1 1 [.string ⟨s.toArray⟩, .int .i64 (n : Int), .bool (p == 0)] (by simp [Act.eval]) rfl HNEWS.out (fun u hu => by simp at hu; rcases hu with rfl | rfl | rfl <;> rfl) (by decide) (by unfold maxLen; omega) (by omega) (by omega) _ rfl ?_
   intro g cp w5 hown5 hgrow hg hg5
   have hKe : Blk RT b #[.slice ka Kl.length kc, .int .i64 (n : Int), fv, gv] w5 := (hgrow.block b HK4.out.lt (fun h => HNK.out h.symm)).trans HK4.out
   have hgb : g ≠ b := by
    rintro rfl
    rcases hg with hg | hg
    · exact HNK.out hg
    omega
   rw [show ([Value.string ⟨s.toArray⟩, .int .i64 (n : Int), .bool (p == 0)] : List Value) = knC ⟨s, n, p == 0⟩ from rfl, ← flatK_snoc] at hown5
   have HOE := Lib.hid hown5
   have HKE := Lib.hid hKe
   have HGR := Lib.hid hgrow
   have HGG := Lib.hid hg
   clear hown5 hKe hgrow hg HNEWS halC
   refine hK.out _ _ (hS _ HKE.out) (fun hH2 => ?_)
   clear hK K
   try simp only [Act.put, Hd.sa, Hd.sz, Hd.ss]
   refine Hd.tk 15 16 hH2 ?_
   refine Hd.tk 16 17 hH2 ?_
   have e0 := HKE.out.c 0 _ rfl
   have ef := HKE.out.fz
   refine Hd.la 17 (fun K hK => ?_)
   go_simp
   refine hK.out _ _ ?_
   clear hK K
   try simp only [Act.put, Hd.sa, Hd.sz, Hd.ss]
   simp only [NoPanic]
   have hk6 := HKE.out.set_ 0 (.slice (some ⟨g, 0, none⟩) (Kl.length + 1) cp) _ rfl
   have e1 := hk6.c 1 (.int .i64 (n : Int)) (by simp)
   have ef6 := hk6.fz
   have hkw : IntKind.i64.wrap ((n : Int) + 1) = (n : Int) + 1 := IntWalk.i64_in _ (by omega)
   have HK6 := Lib.hid hk6
   clear hk6 e0 ef
   go_wp2_with fail
   go_end0
   have hb8s := hb8.out.size
   have hb4s := HB4.out.size
   have hmv : Mv2 b (Value.slice ka Kl.length kc).ownBlock w ((w5.setCell ⟨b, 0, none⟩ (.slice (some ⟨g, 0, none⟩) (Kl.length + 1) cp)).setCell ⟨b, 1, none⟩ (.int .i64 ((n : Int) + 1))) := by
    refine ⟨?_, ?_, ?_, ?_, fun j hj h1 h2 => ?_⟩
    · show w5.os = _; rw [HGR.out.os, HB4.out.os, hb8.out.os]
    · show w5.tape = _; rw [HGR.out.tape, HB4.out.tape, hb8.out.tape]
    · show w5.output = _; rw [HGR.out.output, HB4.out.output, hb8.out.output]
    · have := HGR.out.size; simp [World.setCell]; omega
    rw [Below.heap_setCell _ ⟨b, 1, none⟩ _ j h1, Below.heap_setCell _ ⟨b, 0, none⟩ _ j h1, HGR.out.block j (by omega) h2, HB4.out.block j (by omega), hb8.out.block j hj]
   have hbB := hmv.below hlo (fun k hk => (HOB.out k hk).1) (by omega)
   refine ⟨rfl, .slice (some ⟨g, 0, none⟩) (Kl.length + 1) cp, ⟨?_, ?_, fun e => by cases e; exact hgb rfl, hlo, HH.out.fld.kp (Kp.lt hbB), HH.out.glb.kp (Kp.lt hbB)⟩, fun k hk => ?_, hmv⟩
   · have := HK6.out.set_ 1 (.int .i64 ((n : Int) + 1)) _ rfl
     simpa using this
   · rw [List.length_append]
     exact own_set_ne (own_set_ne HOE.out (fun e => by cases e; exact hgb rfl) 0 _) (fun e => by cases e; exact hgb rfl) 1 _
   have hk : some g = some k := hk
   cases hk
   rcases HGG.out with h | h
   · exact .inl h
   exact .inr (by omega)
 have hne : (l3 != 15) = true := by simpa using h15
 rw [if_neg h15] at hR
 have h0 : l3 ≠ 0 := by
  have h1 := H1.out
  have h2 := H2.out
  have h3 := H3.out
  cases q1 <;> cases q2 <;> cases q3 <;> simp at h1 h2 h3 <;> omega
 rw [if_pos h0] at hR
 subst hR
 have HB9 := Lib.hid (hb8.out.mono (show B ≤ w.heap.size by omega))
 clear h15 h0 hl
 go_wp2_with fail
 exact ⟨rfl, rfl, HB9.out⟩
end
end Rv
end Go.Proofs.YtmmgfifpjifjnaaGreatDoor
namespace Go.Proofs.YtmmgfifpjifjnaaGreatDoor
open Go.RowKit
namespace Rv
open Bs Sm Tr
theorem declL_nil (F : List Bytes) (at_ : Int) (K : List Kn) (n : Nat) : declL F at_ [] K n = .ok (K, n) := rfl
theorem declL_cons (F : List Bytes) (at_ : Int) (s : Bytes) (p : Nat) (l : List (Bytes × Nat)) (K : List Kn) (n : Nat) : declL F at_ ((s, p) :: l) K n = if declE F K n s p ≠ 0 then .error (at_, declE F K n s p) else declL F at_ l (K ++ [⟨s, n, p == 0⟩]) (n + 1) := rfl
theorem declL_step (F : List Bytes) (at_ : Int) (q : Bytes × Nat) (l : List (Bytes × Nat)) (K : List Kn) (n : Nat) : declL F at_ (q :: l) K n = match declL F at_ [q] K n with | .error E => .error E | .ok (K', n') => declL F at_ l K' n' := by
 obtain ⟨s, p⟩ := q
 rw [declL_cons, declL_cons]
 by_cases h : declE F K n s p ≠ 0
 · rw [if_pos h, if_pos h]
 rw [if_neg h, if_neg h, declL_nil]
theorem declL_one {F : List Bytes} {at_ : Int} {s : Bytes} {p : Nat} {K K' : List Kn} {n n' : Nat} (h : declL F at_ [(s, p)] K n = .ok (K', n')) : n < 60 ∧ n' = n + 1 ∧ K'.length = K.length + 1 := by
 unfold declL at h
 by_cases hE : declE F K n s p = 0
 · rw [if_neg (by simpa using hE)] at h
   unfold declL at h
   cases h
   unfold declE at hE
   by_cases h : 60 ≤ n ∨ 12 < p
   · rw [if_pos h] at hE; omega
   exact ⟨by omega, rfl, by simp⟩
 rw [if_pos hE] at h; cases h
section
variable {B b : Nat} {F G : List Bytes} {kv fv gv : Value} {N : List Kn} {n : Nat} {w : World}
theorem rd_low {w' : World} {v : Value} {l : List Bytes} (h : Rd (fun j => j < B) strV w v l) (hb : Below B w w') : Rd (fun j => j < B) strV w' v l := h.kp (Kp.lt hb)
set_option maxRecDepth 100000 in
set_option maxHeartbeats 3200000 in
theorem names_any (pv vv : Value) (P V : List Bytes) (at_ : Int) (h : Rs B b F G kv fv gv N n w) (hn : n ≤ 60) (hN : N.length ≤ n) (hB : B ≤ w.heap.size) (hp : Rd (fun j => j < B) strV w pv P) (hv : Rd (fun j => j < B) strV w vv V) :
  Calls Tryz.prog 24 #[.pointer (some ⟨b, 0, none⟩), pv, vv, .int .i64 at_] w (DeO B b F G kv fv gv (declL F at_ (parN 0 P ++ varN V) N n) w) := by
 have hlo := h.lo
 have hlt := h.blk.lt
 have hrlt := h.row.lt
 obtain ⟨pa, pc, rfl, hpc, hpm⟩ := hp.form
 obtain ⟨va, vc, rfl, hvc, hvm⟩ := hv.form
 unfold maxLen at hpm hvm
 obtain ⟨R, hR⟩ : ∃ R, declL F at_ (parN 0 P ++ varN V) N n = R := ⟨_, rfl⟩
 rw [hR]
 obtain ⟨pl, hpl⟩ : ∃ k, P.length = k := ⟨_, rfl⟩
 obtain ⟨vl, hvl⟩ : ∃ k, V.length = k := ⟨_, rfl⟩
 rw [hpl] at hp hpc
 rw [hvl] at hv hvc
 rw [hpl, hvl]
 have HH := Lib.hid h
 have HP := Lib.hid hp
 have HV := Lib.hid hv
 have HPL := Lib.hid hpl
 have HVL := Lib.hid hvl
 have HR := Lib.hid hR
 have HRL := Lib.hid hrlt
 clear h hp hv hpl hvl hR hrlt
 go_enter Tryz.func24, Tryz.ntmps24
 go_wp2_with fail
 go_loopw [14] (fun y wr => ∃ (k m : Nat) (M : List Kn) (kv' : Value), y = .int .i64 (k : Int) ∧ k ≤ pl ∧ M.length ≤ m ∧ m ≤ 60 ∧ k ≤ m ∧ Hid (declL F at_ (parN k (P.drop k) ++ varN V) M m = R) ∧ Hid (Rs B b F G kv' fv gv M m wr) ∧ Hid (Near w kv kv') ∧ Hid (Mv2 b kv.ownBlock w wr)) (fun y _ => pl - (intOf y).toNat)
 case atStart => exact ⟨0, n, N, kv, rfl, by omega, hN, hn, by omega, by rw [List.drop_zero]; exact HR, HH, Lib.hid (Near.refl _ _), Lib.hid (Mv2.refl _ _ _)⟩
 obtain ⟨k, m, M, kv', rfl, hk, hMm, hm60, hkm, HE, HK, HNR, HMV⟩ := hrel
 have hbB := HMV.out.below hlo (fun j hj => (HRL.out j hj).1) hB
 have HBB := Lib.hid hbB
 clear hbB
 by_cases hkp : k < pl
 · have hd : decide ((k : Int) < (pl : Int)) = true := decide_eq_true (by omega)
   obtain ⟨gb, off, x, rfl, hx, hgb, hcx⟩ := (rd_low HP.out HBB.out).at_ k hkp
   unfold strV at hcx
   have hE := HE.out
   have hdr : P.drop k = x :: P.drop (k + 1) := by rw [List.drop_eq_getElem_cons (by have := HPL.out; omega)]; congr 1; have := (List.getElem?_eq_some_iff.1 hx).2; exact this
   rw [hdr] at hE
   have hE : declL F at_ ((x, k + 1) :: (parN (k + 1) (P.drop (k + 1)) ++ varN V)) M m = R := hE
   rw [declL_step] at hE
   have HD := declare_any x (k + 1) at_ HK.out (by omega) hm60 (by omega)
   obtain ⟨E, hEE⟩ : ∃ E, declL F at_ [(x, k + 1)] M m = E := ⟨_, rfl⟩
   have hone := fun K' n' (h : E = .ok (K', n')) => declL_one (hEE.trans h)
   rw [hEE] at hE HD
   have e1 : (((k + 1 : Nat) : Int)) = (k : Int) + 1 := by omega
   rw [e1] at HD
   replace HD := Lib.hid HD
   have HEE := Lib.hid hE
   clear hE hEE hdr hx HE HK e1
   have hkw : IntKind.i64.wrap ((k : Int) + 1) = (k : Int) + 1 := IntWalk.i64_in _ (by omega)
   go_wp2_with fail
   refine HD.out.mono ?_; intro e w2 ht
   cases E with
   | error y =>
    obtain ⟨rfl, hb2⟩ := ht
    have hR : Except.error y = R := HEE.out
    subst hR
    have HB2 := Lib.hid (HBB.out.trans hb2)
    go_wp2_with fail
    exact ⟨rfl, rfl, HB2.out⟩
   | ok y =>
    obtain ⟨M2, m2⟩ := y
    obtain ⟨rfl, kv2, hr2, hn2, hm2⟩ := ht
    obtain ⟨r1, r2, r3⟩ := hone _ _ rfl
    have HE2 : Hid (declL F at_ (parN (k + 1) (P.drop (k + 1)) ++ varN V) M2 m2 = R) := Lib.hid HEE.out
    have HR2 := Lib.hid hr2
    have HN2 := Lib.hid (HNR.out.trans hn2 HMV.out.size)
    have HM2 := Lib.hid (HMV.out.trans HNR.out hm2)
    clear hr2 hn2 hm2 hone HNR HMV HBB hcx
    go_wp2_with fail
    exact ⟨⟨k + 1, m2, M2, kv2, by simp, by omega, by omega, by omega, by omega, HE2, HR2, HN2, HM2⟩, by simp only [intOf]; omega⟩
 have hd : decide ((k : Int) < (pl : Int)) = false := decide_eq_false (by omega)
 have hE := HE.out
 rw [List.drop_eq_nil_of_le (by have := HPL.out; omega)] at hE
 have HE1 : Hid (declL F at_ (varN V) M m = R) := Lib.hid hE
 clear HE hE
 go_wp2_with fail
 go_loopw [28] (fun y wr2 => ∃ (k m : Nat) (M : List Kn) (kv' : Value), y = .int .i64 (k : Int) ∧ k ≤ vl ∧ M.length ≤ m ∧ m ≤ 60 ∧ Hid (declL F at_ (varN (V.drop k)) M m = R) ∧ Hid (Rs B b F G kv' fv gv M m wr2) ∧ Hid (Near w kv kv') ∧ Hid (Mv2 b kv.ownBlock w wr2)) (fun y _ => vl - (intOf y).toNat)
 case atStart => exact ⟨0, m, M, kv', rfl, by omega, hMm, hm60, by rw [List.drop_zero]; exact HE1, HK, HNR, HMV⟩
 clear HE1 HK HNR HMV HBB
 obtain ⟨k2, m2, M2, kv2, rfl, hk2, hMm2, hm602, HE2, HK2, HNR2, HMV2⟩ := hrel
 have HBB2 := Lib.hid (HMV2.out.below hlo (fun j hj => (HRL.out j hj).1) hB)
 by_cases hkv : k2 < vl
 · have hd2 : decide ((k2 : Int) < (vl : Int)) = true := decide_eq_true (by omega)
   obtain ⟨gb, off, x, rfl, hx, hgb, hcx⟩ := (rd_low HV.out HBB2.out).at_ k2 hkv
   unfold strV at hcx
   have hE := HE2.out
   have hdr : V.drop k2 = x :: V.drop (k2 + 1) := by rw [List.drop_eq_getElem_cons (by have := HVL.out; omega)]; congr 1; have := (List.getElem?_eq_some_iff.1 hx).2; exact this
   rw [hdr] at hE
   have hE : declL F at_ ((x, 0) :: varN (V.drop (k2 + 1))) M2 m2 = R := hE
   rw [declL_step] at hE
   have HD := declare_any x 0 at_ HK2.out (by omega) hm602 (by omega)
   obtain ⟨E, hEE⟩ : ∃ E, declL F at_ [(x, 0)] M2 m2 = E := ⟨_, rfl⟩
   have hone := fun K' n' (h : E = .ok (K', n')) => declL_one (hEE.trans h)
   rw [hEE] at hE HD
   have e1 : (((0 : Nat) : Int)) = (0 : Int) := rfl
   rw [e1] at HD
   replace HD := Lib.hid HD
   have HEE := Lib.hid hE
   clear hE hEE hdr hx HE2 HK2 e1
   have hkw : IntKind.i64.wrap ((k2 : Int) + 1) = (k2 : Int) + 1 := IntWalk.i64_in _ (by omega)
   go_wp2_with fail
   refine HD.out.mono ?_; intro e w2 ht
   cases E with
   | error y =>
    obtain ⟨rfl, hb2⟩ := ht
    have hR : Except.error y = R := HEE.out
    subst hR
    have HB2 := Lib.hid (HBB2.out.trans hb2)
    go_wp2_with fail
    exact ⟨rfl, rfl, HB2.out⟩
   | ok y =>
    obtain ⟨M3, m3⟩ := y
    obtain ⟨rfl, kv3, hr2, hn2, hm2⟩ := ht
    obtain ⟨r1, r2, r3⟩ := hone _ _ rfl
    have HE3 : Hid (declL F at_ (varN (V.drop (k2 + 1))) M3 m3 = R) := Lib.hid HEE.out
    have HR3 := Lib.hid hr2
    have HN3 := Lib.hid (HNR2.out.trans hn2 HMV2.out.size)
    have HM3 := Lib.hid (HMV2.out.trans HNR2.out hm2)
    clear hr2 hn2 hm2 hone HNR2 HMV2 HBB2 hcx
    go_wp2_with fail
    exact ⟨⟨k2 + 1, m3, M3, kv3, by simp, by omega, by omega, by omega, HE3, HR3, HN3, HM3⟩, by simp only [intOf]; omega⟩
 have hd2 : decide ((k2 : Int) < (vl : Int)) = false := decide_eq_false (by omega)
 have hE := HE2.out
 rw [List.drop_eq_nil_of_le (by have := HVL.out; omega)] at hE
 have hE : Except.ok (M2, m2) = R := hE
 subst hE
 go_wp2_with fail
 go_end0
 exact ⟨rfl, kv2, HK2.out, HNR2.out, HMV2.out⟩
end
end Rv
end Go.Proofs.YtmmgfifpjifjnaaGreatDoor
namespace Go.Proofs.YtmmgfifpjifjnaaGreatDoor
open Go.RowKit
namespace Rv
open Bs Sm Tr
abbrev NDT : Nat := 94
section
variable {T j k B : Nat} {a0 a1 a2 a3 a4 a5 v0 v1 v2 v3 v4 v5 : Value} {cs : Array Value} {S : Nat → Prop} {w w0 : World}
theorem blk_set6 (h : Blk T k #[a0, a1, a2, a3, a4, a5] w) : Blk T k #[v0, v1, v2, v3, v4, v5] ((((((w.setCell ⟨k, 0, none⟩ v0).setCell ⟨k, 1, none⟩ v1).setCell ⟨k, 2, none⟩ v2).setCell ⟨k, 3, none⟩ v3).setCell ⟨k, 4, none⟩ v4).setCell ⟨k, 5, none⟩ v5) :=
 (((((h.set_ 0 v0 _ rfl).set_ 1 v1 _ rfl).set_ 2 v2 _ rfl).set_ 3 v3 _ rfl).set_ 4 v4 _ rfl).set_ 5 v5 _ rfl
theorem blk_far6 (h : Blk T j cs w) (hne : j ≠ k) : Blk T j cs ((((((w.setCell ⟨k, 0, none⟩ v0).setCell ⟨k, 1, none⟩ v1).setCell ⟨k, 2, none⟩ v2).setCell ⟨k, 3, none⟩ v3).setCell ⟨k, 4, none⟩ v4).setCell ⟨k, 5, none⟩ v5) :=
 (((((h.far hne v0).far (p := ⟨k, 1, none⟩) hne v1).far (p := ⟨k, 2, none⟩) hne v2).far (p := ⟨k, 3, none⟩) hne v3).far (p := ⟨k, 4, none⟩) hne v4).far (p := ⟨k, 5, none⟩) hne v5
theorem bel_set6 (h : Below B w0 w) (hk : B ≤ k) : Below B w0 ((((((w.setCell ⟨k, 0, none⟩ v0).setCell ⟨k, 1, none⟩ v1).setCell ⟨k, 2, none⟩ v2).setCell ⟨k, 3, none⟩ v3).setCell ⟨k, 4, none⟩ v4).setCell ⟨k, 5, none⟩ v5) :=
 (((((h.setCell (p := ⟨k, 0, none⟩) hk v0).setCell (p := ⟨k, 1, none⟩) hk v1).setCell (p := ⟨k, 2, none⟩) hk v2).setCell (p := ⟨k, 3, none⟩) hk v3).setCell (p := ⟨k, 4, none⟩) hk v4).setCell (p := ⟨k, 5, none⟩) hk v5
end
theorem bel_drewN {B : Nat} {w w' : World} (h : Below B w w') (k : Nat) : Below B w (w'.drewN k) := ⟨h.os, h.tape, h.output, h.size, h.block⟩
def VarO (x : RE (It × Nat)) (w : World) (e : Ending) (w' : World) : Prop :=
 Below w.heap.size w w' ∧ match x with
 | .error E => e = .panicked [{ v := fltR E.1 E.2, recovered := false }]
 | .ok (i, _) => e = .returned (itV i (.slice none 0 0)) ∧ i.kids = []
section
variable {B b : Nat} {F G : List Bytes} {kv fv gv : Value} {N : List Kn} {n : Nat} {w : World}
set_option maxRecDepth 100000 in
set_option maxHeartbeats 3200000 in
theorem variable_any (x : Nd) (ka na : Option Addr) (kc nc : Nat) (h : Rs B b F G kv fv gv N n w) :
  Calls Tryz.prog 82 #[.pointer (some ⟨b, 0, none⟩), .agg #[.int .i64 x.kind, .string ⟨x.name.toArray⟩, .int .i64 x.num, .slice ka x.kids.length kc, .slice na x.names.length nc, .int .i64 x.at_]] w (VarO (varR F G N n x.name x.at_) w) := by
 have hlt := h.blk.lt
 have hbA := alloc_bel w (.cells #[.int .i64 x.kind, .string ⟨x.name.toArray⟩, .int .i64 x.num, .slice ka x.kids.length kc, .slice na x.names.length nc, .int .i64 x.at_] NDT)
 have hKA := Blk.made (T := NDT) (cs := #[.int .i64 x.kind, .string ⟨x.name.toArray⟩, .int .i64 x.num, .slice ka x.kids.length kc, .slice na x.names.length nc, .int .i64 x.at_]) w
 have hzA : (w.alloc (.cells #[.int .i64 x.kind, .string ⟨x.name.toArray⟩, .int .i64 x.num, .slice ka x.kids.length kc, .slice na x.names.length nc, .int .i64 x.at_] NDT)).heap.size = w.heap.size + 1 := by simp
 obtain ⟨W1, halA⟩ : ∃ W, w.alloc (.cells #[.int .i64 x.kind, .string ⟨x.name.toArray⟩, .int .i64 x.num, .slice ka x.kids.length kc, .slice na x.names.length nc, .int .i64 x.at_] NDT) = W := ⟨_, rfl⟩
 rw [halA] at hbA hKA hzA
 have hbB := hbA.trans ((alloc_bel W1 (.cells #[.int .i64 0, .string ⟨#[]⟩, .int .i64 0, .int .i64 0, .int .i64 0, .slice none 0 0] IT)).mono (by omega))
 have hKB := Blk.made (T := IT) (cs := #[.int .i64 0, .string ⟨#[]⟩, .int .i64 0, .int .i64 0, .int .i64 0, .slice none 0 0]) W1
 have hKA := hKA.alloc (.cells #[.int .i64 0, .string ⟨#[]⟩, .int .i64 0, .int .i64 0, .int .i64 0, .slice none 0 0] IT)
 have hzB : (W1.alloc (.cells #[.int .i64 0, .string ⟨#[]⟩, .int .i64 0, .int .i64 0, .int .i64 0, .slice none 0 0] IT)).heap.size = W1.heap.size + 1 := by simp
 obtain ⟨W2, halB⟩ : ∃ W, W1.alloc (.cells #[.int .i64 0, .string ⟨#[]⟩, .int .i64 0, .int .i64 0, .int .i64 0, .slice none 0 0] IT) = W := ⟨_, rfl⟩
 rw [halB] at hbB hKA hKB hzB
 rw [hzA] at hKB hzB
 have HP := Lib.hid (fun w' => pseudo_any x.name w')
 have HF := Lib.hid (fun w' (hb : Below w.heap.size w w') => find_any x.name (h.bel hb))
 have HG := Lib.hid (fun w' (hb : Below w.heap.size w w') => field_any x.name (h.bel hb))
 obtain ⟨ga, gc, rfl, -, -⟩ := h.glb.form
 have HC := Lib.hid (fun w' (hb : Below w.heap.size w w') => contains_any x.name _ G w' ((h.bel hb).glb))
 obtain ⟨R, hR⟩ : ∃ R, varR F G N n x.name x.at_ = R := ⟨_, rfl⟩
 rw [hR]
 unfold varR at hR
 obtain ⟨fk, hfk⟩ : ∃ y, findK N x.name = y := ⟨_, rfl⟩
 obtain ⟨fd, hfd⟩ : ∃ y, fieldF F x.name = y := ⟨_, rfl⟩
 obtain ⟨ps, hps⟩ : ∃ y, pseu x.name = y := ⟨_, rfl⟩
 obtain ⟨cn, hcn⟩ : ∃ y, decide (x.name ∈ G) = y := ⟨_, rfl⟩
 rw [hfk] at HF hR
 rw [hfd] at HG hR
 rw [hps] at HP hR
 rw [hcn] at HC
 have c0 := hKA.c 0 _ rfl
 have c1 := hKA.c 1 _ rfl
 have c5 := hKA.c 5 _ rfl
 have HKA := Lib.hid hKA
 have HKB := Lib.hid hKB
 have HBB := Lib.hid hbB
 have HR := Lib.hid hR
 have HCN := Lib.hid hcn
 have HH := Lib.hid h
 clear h hfk hfd hps hcn hKA hKB hbA hbB hR
 go_enter Tryz.func82, Tryz.ntmps82
 go_wp2_with fail
 refine (HP.out W2).mono ?_; rintro e w3 ⟨rfl, hb3⟩
 have HB3 := Lib.hid (HBB.out.trans (hb3.mono HBB.out.size))
 have HK3 := Lib.hid (HKB.out.below hb3 HKB.out.lt)
 have hka3 := HKA.out.below hb3 HKA.out.lt
 clear c0 c1 c5 hb3
 have c1 := hka3.c 1 _ rfl
 have HKA3 := Lib.hid hka3
 clear hka3
 by_cases hp0 : ps = 0
 · have hpb : (ps != 0) = false := by rw [hp0]; rfl
   have hR := HR.out
   rw [if_neg (by simpa using hp0)] at hR
   have HR2 := Lib.hid hR
   clear hR hp0
   go_wp2_with fail
   refine (HF.out w3 HB3.out).mono ?_; rintro e w4 ⟨rfl, hb4⟩
   have HB4 := Lib.hid (HB3.out.trans (hb4.mono HB3.out.size))
   have HK4 := Lib.hid (HK3.out.below hb4 HK3.out.lt)
   have hka4 := HKA3.out.below hb4 HKA3.out.lt
   clear c1 hb4
   have c1 := hka4.c 1 _ rfl
   have c5 := hka4.c 5 _ rfl
   have HKA4 := Lib.hid hka4
   clear hka4
   cases fk with
   | some kn =>
    have hR := HR2.out
    subst hR
    unfold knO knV
    have hbW := HB4.out.trans ((alloc_bel w4 (.cells #[.string ⟨kn.name.toArray⟩, .int .i64 (kn.slot : Int), .bool kn.set] KNT)).mono HB4.out.size)
    have hkR := HK4.out.alloc (.cells #[.string ⟨kn.name.toArray⟩, .int .i64 (kn.slot : Int), .bool kn.set] KNT)
    have hkN := Blk.made (T := KNT) (cs := #[.string ⟨kn.name.toArray⟩, .int .i64 (kn.slot : Int), .bool kn.set]) w4
    obtain ⟨W5, hal⟩ : ∃ W, w4.alloc (.cells #[.string ⟨kn.name.toArray⟩, .int .i64 (kn.slot : Int), .bool kn.set] KNT) = W := ⟨_, rfl⟩
    rw [hal] at hbW hkR hkN
    have HBW := Lib.hid hbW
    have HKR := Lib.hid hkR
    have k1 := hkN.c 1 _ rfl
    have r0 := HKR.out.c 0 _ rfl
    have r1 := HKR.out.c 1 _ rfl
    have r2 := HKR.out.c 2 _ rfl
    have r3 := HKR.out.c 3 _ rfl
    have r4 := HKR.out.c 4 _ rfl
    have r5 := HKR.out.c 5 _ rfl
    have rf := HKR.out.fz
    clear hbW hkR hkN
    go_wp2_with fail
    have hb6 := bel_set6 (k := w.heap.size + 1) (v0 := .int .i64 10) (v1 := .string ⟨#[]⟩) (v2 := .int .i64 0) (v3 := .int .i64 (kn.slot : Int)) (v4 := .int .i64 0) (v5 := .slice none 0 0) HBW.out (show w.heap.size ≤ w.heap.size + 1 by omega)
    have hk6 := blk_set6 (v0 := .int .i64 10) (v1 := .string ⟨#[]⟩) (v2 := .int .i64 0) (v3 := .int .i64 (kn.slot : Int)) (v4 := .int .i64 0) (v5 := .slice none 0 0) HKR.out
    obtain ⟨W6, hW6⟩ : ∃ W, (((((W5.setCell ⟨w.heap.size + 1, 0, none⟩ (.int .i64 10)).setCell ⟨w.heap.size + 1, 1, none⟩ (.string ⟨#[]⟩)).setCell ⟨w.heap.size + 1, 2, none⟩ (.int .i64 0)).setCell ⟨w.heap.size + 1, 3, none⟩ (.int .i64 (kn.slot : Int))).setCell ⟨w.heap.size + 1, 4, none⟩ (.int .i64 0)).setCell ⟨w.heap.size + 1, 5, none⟩ (.slice none 0 0) = W := ⟨_, rfl⟩
    rw [hW6] at hb6 hk6 ⊢
    have z0 := hk6.c 0 _ rfl
    have z1 := hk6.c 1 _ rfl
    have z2 := hk6.c 2 _ rfl
    have z3 := hk6.c 3 _ rfl
    have z4 := hk6.c 4 _ rfl
    have z5 := hk6.c 5 _ rfl
    refine bodyPost_ret (v := .agg #[.int .i64 10, .string ⟨#[]⟩, .int .i64 0, .int .i64 (kn.slot : Int), .int .i64 0, .slice none 0 0]) (by simp [results, Tryz.results82, go_sem, z0, z1, z2, z3, z4, z5]) rfl ?_
    exact ⟨hb6, rfl, rfl⟩
   | none =>
    have hR := HR2.out
    simp only at hR
    have HR3 := Lib.hid hR
    clear hR
    unfold knO
    simp only [Option.isSome_none]
    have hb5 := alloc_bel w4 (.cells #[.string ⟨#[]⟩, .int .i64 0, .bool false] KNT)
    have HB5 := Lib.hid (HB4.out.trans (hb5.mono HB4.out.size))
    have HK5 := Lib.hid (HK4.out.below hb5 HK4.out.lt)
    have hka5 := HKA4.out.below hb5 HKA4.out.lt
    clear c1 c5 hb5
    have c1 := hka5.c 1 _ rfl
    have HKA5 := Lib.hid hka5
    clear hka5
    go_wp2_with fail
    refine (HG.out (w4.alloc (.cells #[.string ⟨#[]⟩, .int .i64 0, .bool false] KNT)) HB5.out).mono ?_; rintro e w6 ⟨rfl, hb6⟩
    have HBW := Lib.hid (HB5.out.trans (hb6.mono HB5.out.size))
    have HKR := Lib.hid (HK5.out.below hb6 HK5.out.lt)
    have hka6 := HKA5.out.below hb6 HKA5.out.lt
    clear c1 hb6
    have c1 := hka6.c 1 _ rfl
    have c5 := hka6.c 5 _ rfl
    clear hka6
    have hR := HR3.out
    by_cases hfd : 0 ≤ fd
    · rw [if_pos hfd] at hR
      subst hR
      have hd : decide (0 ≤ fd) = true := decide_eq_true hfd
      have r0 := HKR.out.c 0 _ rfl
      have r1 := HKR.out.c 1 _ rfl
      have r2 := HKR.out.c 2 _ rfl
      have r3 := HKR.out.c 3 _ rfl
      have r4 := HKR.out.c 4 _ rfl
      have r5 := HKR.out.c 5 _ rfl
      have rf := HKR.out.fz
      go_wp2_with fail
      have hb6 := bel_set6 (k := w.heap.size + 1) (v0 := .int .i64 11) (v1 := .string ⟨#[]⟩) (v2 := .int .i64 0) (v3 := .int .i64 fd) (v4 := .int .i64 0) (v5 := .slice none 0 0) HBW.out (show w.heap.size ≤ w.heap.size + 1 by omega)
      have hk6 := blk_set6 (v0 := .int .i64 11) (v1 := .string ⟨#[]⟩) (v2 := .int .i64 0) (v3 := .int .i64 fd) (v4 := .int .i64 0) (v5 := .slice none 0 0) HKR.out
      obtain ⟨W6, hW6⟩ : ∃ W, (((((w6.setCell ⟨w.heap.size + 1, 0, none⟩ (.int .i64 11)).setCell ⟨w.heap.size + 1, 1, none⟩ (.string ⟨#[]⟩)).setCell ⟨w.heap.size + 1, 2, none⟩ (.int .i64 0)).setCell ⟨w.heap.size + 1, 3, none⟩ (.int .i64 fd)).setCell ⟨w.heap.size + 1, 4, none⟩ (.int .i64 0)).setCell ⟨w.heap.size + 1, 5, none⟩ (.slice none 0 0) = W := ⟨_, rfl⟩
      rw [hW6] at hb6 hk6 ⊢
      have z0 := hk6.c 0 _ rfl
      have z1 := hk6.c 1 _ rfl
      have z2 := hk6.c 2 _ rfl
      have z3 := hk6.c 3 _ rfl
      have z4 := hk6.c 4 _ rfl
      have z5 := hk6.c 5 _ rfl
      refine bodyPost_ret (v := .agg #[.int .i64 11, .string ⟨#[]⟩, .int .i64 0, .int .i64 fd, .int .i64 0, .slice none 0 0]) (by simp [results, Tryz.results82, go_sem, z0, z1, z2, z3, z4, z5]) rfl ?_
      exact ⟨hb6, rfl, rfl⟩
    rw [if_neg hfd] at hR
    have hd : decide (0 ≤ fd) = false := decide_eq_false hfd
    clear hfd
    have hre := (HH.out.bel HBW.out).blk
    have g3 := hre.c 3 _ rfl
    by_cases hs : x.name = supS
    · rw [if_pos (.inl hs)] at hR
      subst hR
      have hs1 : (x.name == [115, 117, 112, 101, 114]) = true := by rw [hs]; rfl
      clear hs
      go_upto_region 10 with fail
      go_quiet (fail)
      have HB9 := Lib.hid (bel_drewN HBW.out nq)
      have c5 : (w6.drewN nq).cell? ⟨w.heap.size, 5, none⟩ = some (.int .i64 x.at_) := c5
      go_wp2_with fail
      exact ⟨rfl, HB9.out, rfl⟩
    have hs1 : (x.name == [115, 117, 112, 101, 114]) = false := by
     rw [beq_eq_false_iff_ne]; exact hs
    have hR2 : (if cn = true then (.ok (.mk 9 x.name 0 0 0 [], n) : RE (It × Nat)) else .error (x.at_, 11)) = R := by
     rw [← hR]
     cases cn with
     | true => rw [if_pos rfl, if_neg (by simp [hs, of_decide_eq_true HCN.out])]
     | false => rw [if_neg (by simp), if_pos (.inr (of_decide_eq_false HCN.out))]
    clear hR hs
    go_upto_region 10 with fail
    have hcq : ∀ k, Calls Tryz.prog 126 #[.slice ga G.length gc, .string ⟨x.name.toArray⟩] (w6.drewN k) fun e w' => e = .returned (.bool cn) ∧ w' = w6.drewN k := fun k => (HC.out (w6.drewN k) (bel_drewN HBW.out k)).mono fun e w' ⟨h1, h2⟩ => ⟨h1, h2.symm⟩
    have hc0 : Calls Tryz.prog 126 #[.slice ga G.length gc, .string ⟨x.name.toArray⟩] w6 fun e w' => e = .returned (.bool cn) ∧ w' = w6 := (HC.out w6 HBW.out).mono fun e w' ⟨h1, h2⟩ => ⟨h1, h2.symm⟩
    have HCQ := Lib.hid hcq
    have HC0 := Lib.hid hc0
    clear hcq hc0
    go_quiet (first | (go_at_call 126; first | exact Calls.quiet_of_same HC0.out | exact Calls.quiet_of_same (HCQ.out _)))
    obtain ⟨W7, hW7⟩ : ∃ W, w6.drewN nq = W := ⟨_, rfl⟩
    have hBW7 := bel_drewN HBW.out nq
    have hKR7 := Blk.drewN HKR.out nq
    have c1 : (w6.drewN nq).cell? ⟨w.heap.size, 1, none⟩ = some (.string ⟨x.name.toArray⟩) := c1
    have c5 : (w6.drewN nq).cell? ⟨w.heap.size, 5, none⟩ = some (.int .i64 x.at_) := c5
    rw [hW7] at hBW7 hKR7 c1 c5 ⊢
    have HB7 := Lib.hid hBW7
    have HKR7 := Lib.hid hKR7
    clear hW7 hBW7 hKR7
    cases cn with
    | false =>
     rw [if_neg (by simp)] at hR2
     subst hR2
     go_wp2_with fail
     exact ⟨rfl, HB7.out, rfl⟩
    | true =>
     rw [if_pos rfl] at hR2
     subst hR2
     have r0 := HKR7.out.c 0 _ rfl
     have r1 := HKR7.out.c 1 _ rfl
     have r2 := HKR7.out.c 2 _ rfl
     have r3 := HKR7.out.c 3 _ rfl
     have r4 := HKR7.out.c 4 _ rfl
     have r5 := HKR7.out.c 5 _ rfl
     have rf := HKR7.out.fz
     go_wp2_with fail
     have hb6 := bel_set6 (k := w.heap.size + 1) (v0 := .int .i64 9) (v1 := .string ⟨x.name.toArray⟩) (v2 := .int .i64 0) (v3 := .int .i64 0) (v4 := .int .i64 0) (v5 := .slice none 0 0) HB7.out (show w.heap.size ≤ w.heap.size + 1 by omega)
     have hk6 := blk_set6 (v0 := .int .i64 9) (v1 := .string ⟨x.name.toArray⟩) (v2 := .int .i64 0) (v3 := .int .i64 0) (v4 := .int .i64 0) (v5 := .slice none 0 0) HKR7.out
     obtain ⟨W6, hW6⟩ : ∃ W, (((((W7.setCell ⟨w.heap.size + 1, 0, none⟩ (.int .i64 9)).setCell ⟨w.heap.size + 1, 1, none⟩ (.string ⟨x.name.toArray⟩)).setCell ⟨w.heap.size + 1, 2, none⟩ (.int .i64 0)).setCell ⟨w.heap.size + 1, 3, none⟩ (.int .i64 0)).setCell ⟨w.heap.size + 1, 4, none⟩ (.int .i64 0)).setCell ⟨w.heap.size + 1, 5, none⟩ (.slice none 0 0) = W := ⟨_, rfl⟩
     rw [hW6] at hb6 hk6 ⊢
     have z0 := hk6.c 0 _ rfl
     have z1 := hk6.c 1 _ rfl
     have z2 := hk6.c 2 _ rfl
     have z3 := hk6.c 3 _ rfl
     have z4 := hk6.c 4 _ rfl
     have z5 := hk6.c 5 _ rfl
     refine bodyPost_ret (v := .agg #[.int .i64 9, .string ⟨x.name.toArray⟩, .int .i64 0, .int .i64 0, .int .i64 0, .slice none 0 0]) (by simp [results, Tryz.results82, go_sem, z0, z1, z2, z3, z4, z5]) rfl ?_
     exact ⟨hb6, rfl, rfl⟩
 have hpb : (ps != 0) = true := by simpa using hp0
 have hR := HR.out
 rw [if_pos (by simpa using hp0)] at hR
 subst hR
 have HBW := HB3
 have HKR := HK3
 have r0 := HKR.out.c 0 _ rfl
 have r1 := HKR.out.c 1 _ rfl
 have r2 := HKR.out.c 2 _ rfl
 have r3 := HKR.out.c 3 _ rfl
 have r4 := HKR.out.c 4 _ rfl
 have r5 := HKR.out.c 5 _ rfl
 have rf := HKR.out.fz
 clear hp0
 go_wp2_with fail
 have hb6 := bel_set6 (k := w.heap.size + 1) (v0 := .int .i64 ps) (v1 := .string ⟨#[]⟩) (v2 := .int .i64 0) (v3 := .int .i64 0) (v4 := .int .i64 0) (v5 := .slice none 0 0) HBW.out (show w.heap.size ≤ w.heap.size + 1 by omega)
 have hk6 := blk_set6 (v0 := .int .i64 ps) (v1 := .string ⟨#[]⟩) (v2 := .int .i64 0) (v3 := .int .i64 0) (v4 := .int .i64 0) (v5 := .slice none 0 0) HKR.out
 obtain ⟨W6, hW6⟩ : ∃ W, (((((w3.setCell ⟨w.heap.size + 1, 0, none⟩ (.int .i64 ps)).setCell ⟨w.heap.size + 1, 1, none⟩ (.string ⟨#[]⟩)).setCell ⟨w.heap.size + 1, 2, none⟩ (.int .i64 0)).setCell ⟨w.heap.size + 1, 3, none⟩ (.int .i64 0)).setCell ⟨w.heap.size + 1, 4, none⟩ (.int .i64 0)).setCell ⟨w.heap.size + 1, 5, none⟩ (.slice none 0 0) = W := ⟨_, rfl⟩
 rw [hW6] at hb6 hk6 ⊢
 have z0 := hk6.c 0 _ rfl
 have z1 := hk6.c 1 _ rfl
 have z2 := hk6.c 2 _ rfl
 have z3 := hk6.c 3 _ rfl
 have z4 := hk6.c 4 _ rfl
 have z5 := hk6.c 5 _ rfl
 refine bodyPost_ret (v := .agg #[.int .i64 ps, .string ⟨#[]⟩, .int .i64 0, .int .i64 0, .int .i64 0, .slice none 0 0]) (by simp [results, Tryz.results82, go_sem, z0, z1, z2, z3, z4, z5]) rfl ?_
 exact ⟨hb6, rfl, rfl⟩
set_option maxRecDepth 100000 in
set_option maxHeartbeats 1600000 in
theorem super_any (x : Nd) (ka na : Option Addr) (kc nc : Nat) (hT : Tree (fun j => j < B) w (.slice ka x.kids.length kc) x.kids) (hO : OkN x) (hB : B ≤ w.heap.size) :
  Calls Tryz.prog 127 #[.agg #[.int .i64 x.kind, .string ⟨x.name.toArray⟩, .int .i64 x.num, .slice ka x.kids.length kc, .slice na x.names.length nc, .int .i64 x.at_]] w (Back (.bool (x.kind == 7 && superB x)) w) := by
 have hbA := alloc_bel w (.cells #[.int .i64 x.kind, .string ⟨x.name.toArray⟩, .int .i64 x.num, .slice ka x.kids.length kc, .slice na x.names.length nc, .int .i64 x.at_] NDT)
 have hKA := Blk.made (T := NDT) (cs := #[.int .i64 x.kind, .string ⟨x.name.toArray⟩, .int .i64 x.num, .slice ka x.kids.length kc, .slice na x.names.length nc, .int .i64 x.at_]) w
 obtain ⟨W1, halA⟩ : ∃ W, w.alloc (.cells #[.int .i64 x.kind, .string ⟨x.name.toArray⟩, .int .i64 x.num, .slice ka x.kids.length kc, .slice na x.names.length nc, .int .i64 x.at_] NDT) = W := ⟨_, rfl⟩
 rw [halA] at hbA hKA
 have hT1 := hT.bel hbA
 have c0 := hKA.c 0 _ rfl
 have c3 := hKA.c 3 _ rfl
 have HB := Lib.hid hbA
 by_cases h7 : x.kind = 7
 · have hk7 : (x.kind == 7) = true := by rw [h7]; rfl
   obtain ⟨y, l, hkl⟩ : ∃ y l, x.kids = y :: l := by
    cases hk : x.kids with
    | nil => exact absurd hk (hO.1 h7)
    | cons y l => exact ⟨y, l, rfl⟩
   have hs : superB x = (y.kind == 5 && y.name == supS) := by unfold superB; rw [hkl]
   have hpos : 0 < x.kids.length := by rw [hkl]; simp
   obtain ⟨gb, off, y', ka', kc', na', nc', rfl, hy', hgb, -, hrow, -, -⟩ := hT1.nth 0 hpos
   have hy : y' = y := by rw [hkl] at hy'; simpa using hy'.symm
   subst hy
   obtain ⟨y0, y1, -⟩ := hrow
   rw [hs, hk7, Bool.true_and]
   simp only [Nat.zero_mul, Nat.add_zero] at y0 y1
   by_cases h5 : y'.kind = 5
   · have hk5 : (y'.kind == 5) = true := by rw [h5]; rfl
     obtain ⟨q, hq⟩ : ∃ q, (y'.name == supS) = q := ⟨_, rfl⟩
     have hq2 : (y'.name == [115, 117, 112, 101, 114]) = q := hq
     rw [hk5, hq, Bool.true_and]
     clear h7 h5 hkl hs hy' hT hT1 hq
     go_enter Tryz.func127, Tryz.ntmps127
     go_wp2_with fail
     go_ret
     exact ⟨rfl, HB.out⟩
   have hk5 : (y'.kind == 5) = false := by simpa using h5
   rw [hk5, Bool.false_and]
   clear h7 h5 hkl hs hy' hT hT1
   go_enter Tryz.func127, Tryz.ntmps127
   go_wp2_with fail
   go_ret
   exact ⟨rfl, HB.out⟩
 have hk7 : (x.kind == 7) = false := by simpa using h7
 rw [hk7, Bool.false_and]
 clear h7
 go_enter Tryz.func127, Tryz.ntmps127
 go_wp2_with fail
 go_ret
 exact ⟨rfl, HB.out⟩
end
end Rv
end Go.Proofs.YtmmgfifpjifjnaaGreatDoor
namespace Go.Proofs.YtmmgfifpjifjnaaGreatDoor
open Go.RowKit
namespace Rv
open Bs Sm Tr
section
variable {A B b : Nat} {F G : List Bytes} {kv kv' kv2 fv gv v : Value} {N : List Kn} {n : Nat} {w w' w2 : World} {l : List It}
def Nw (A : Nat) (kv : Value) : Nat → Prop := fun j => A ≤ j ∧ kv.ownBlock ≠ some j
def ItO (B b : Nat) (F G : List Bytes) (kv fv gv : Value) (N : List Kn) (x : RE (It × Nat)) (w : World) (e : Ending) (w' : World) : Prop :=
 match x with
 | .error E => Fel B E w e w'
 | .ok (i, n) => ∃ ikv kv', e = .returned (itV i ikv) ∧ Its (Nw w.heap.size kv') w' ikv i.kids ∧ Rs B b F G kv' fv gv N n w' ∧ Near w kv kv' ∧ Mv2 b kv.ownBlock w w'
theorem Its.step (h : Its (Nw A kv') w' v l) (hb : b < A) (hm : Mv2 b kv'.ownBlock w' w2) (hn : Near w' kv' kv2) : Its (Nw A kv2) w2 v l := by
 have h1 : Its (fun j => Nw A kv' j ∧ j < w'.heap.size) w' v l := h.mono (fun j hj hl => ⟨hj, hl⟩)
 have h2 := h1.kp (w' := w2) ⟨hm.size, fun j hj hl => hm.block j hl (fun e => by have := hj.1.1; omega) (fun e => hj.1.2 e.symm)⟩
 refine h2.mono (fun j hj _ => ⟨hj.1.1, fun e => ?_⟩)
 rcases hn j e with e2 | e2
 · exact hj.1.2 e2
 have := hj.2; omega
theorem Its.age {A' : Nat} (h : Its (Nw A' kv) w v l) (hA : A ≤ A') : Its (Nw A kv) w v l := h.mono (fun j hj _ => ⟨by have := hj.1; omega, hj.2⟩)
def Out (A : Nat) (kv : Value) (w : World) (v : Value) (l : List It) : Prop := OwnI IT A (Nw A kv) w v l ∧ (∀ j, v.ownBlock = some j → kv.ownBlock ≠ some j) ∧ (l = [] → v = .slice none 0 0)
theorem Out.nil (A : Nat) (kv : Value) (w : World) : Out A kv w (.slice none 0 0) [] := ⟨OwnI.nil _ _ _ _, (fun j h => by cases h), fun _ => rfl⟩
theorem Out.step (h : Out A kv' w' v l) (hb : b < A) (hm : Mv2 b kv'.ownBlock w' w2) (hn : Near w' kv' kv2) : Out A kv2 w2 v l := by
 obtain ⟨h1, h2, h9⟩ := h
 have hlt := h1.lt
 have h3 : OwnI IT A (fun j => Nw A kv' j ∧ j < w'.heap.size) w' v l := h1.mono (fun j hj hl => ⟨hj, hl⟩)
 have h4 := h3.kp (w' := w2) hm.size (fun j hl hj => by
  rcases hj with hj | hj
  · exact hm.block j hl (fun e => by have := hj.1.1; omega) (fun e => hj.1.2 e.symm)
  exact hm.block j hl (fun e => by have := (hlt j hj).1; omega) (fun e => h2 j hj e.symm))
 refine ⟨h4.mono (fun j hj _ => ⟨hj.1.1, fun e => ?_⟩), fun j hj e => ?_, h9⟩
 · rcases hn j e with e2 | e2
   · exact hj.1.2 e2
   have := hj.2; omega
 rcases hn j e with e2 | e2
 · exact h2 j hj e2
 have := (hlt j hj).2; omega
theorem Out.bel (h : Out A kv w v l) (hb : Below w.heap.size w w') : Out A kv w' v l := ⟨h.1.bel hb, h.2⟩
theorem Out.its (h : Out A kv w v l) : Its (Nw A kv) w v l := h.1.its.mono (fun j hj hl => by
 rcases hj with hj | hj
 · exact hj
 exact ⟨(h.1.lt j hj).1, h.2.1 j hj⟩)
def IsO (B b : Nat) (F G : List Bytes) (kv fv gv : Value) (N : List Kn) (x : RE (List It × Nat)) (w : World) (e : Ending) (w' : World) : Prop :=
 match x with
 | .error E => Fel B E w e w'
 | .ok (is, n) => ∃ iv kv', e = .returned iv ∧ Out w.heap.size kv' w' iv is ∧ Rs B b F G kv' fv gv N n w' ∧ Near w kv kv' ∧ Mv2 b kv.ownBlock w w'
theorem Mv2.bel {g : Option Nat} (h : Mv2 b g w w') (k : Below w'.heap.size w' w2) : Mv2 b g w w2 :=
 ⟨k.os.trans h.os, k.tape.trans h.tape, k.output.trans h.output, Nat.le_trans h.size k.size, fun j hj h1 h2 => (k.block j (Nat.lt_of_lt_of_le hj h.size)).trans (h.block j hj h1 h2)⟩
theorem Mv2.new {g : Option Nat} (h : Mv2 b g w w') {p : Addr} (hp : w.heap.size ≤ p.block) (u : Value) : Mv2 b g w (w'.setCell p u) :=
 ⟨h.os, h.tape, h.output, by simpa [World.setCell] using h.size, fun j hj h1 h2 => (Below.heap_setCell _ p u j (by omega)).trans (h.block j hj h1 h2)⟩
theorem Mv2.set_ {g : Option Nat} (h : Mv2 b g w w') (i : Nat) (u : Value) : Mv2 b g w (w'.setCell ⟨b, i, none⟩ u) :=
 ⟨h.os, h.tape, h.output, by simpa [World.setCell] using h.size, fun j hj h1 h2 => (Below.heap_setCell _ ⟨b, i, none⟩ u j h1).trans (h.block j hj h1 h2)⟩
theorem Mv2.grown {g r : Option Nat} (h : Mv2 b g w w') (k : w'.grownBy w2 r) (hr : ∀ j, r = some j → w.heap.size ≤ j) : Mv2 b g w w2 :=
 ⟨k.os.trans h.os, k.tape.trans h.tape, k.output.trans h.output, Nat.le_trans h.size k.size, fun j hj h1 h2 => (k.block j (Nat.lt_of_lt_of_le hj h.size) (fun e => by have := hr j e.symm; omega)).trans (h.block j hj h1 h2)⟩
theorem Rs.grown {r : Option Nat} (h : Rs B b F G kv fv gv N n w) (k : w.grownBy w2 r) (hb : some b ≠ r) (hk : ∀ j, kv.ownBlock = some j → some j ≠ r) (hB : ∀ j, r = some j → B ≤ j) : Rs B b F G kv fv gv N n w2 := by
 refine ⟨(k.block b h.blk.lt hb).trans h.blk, ?_, h.ne, h.lo, h.fld.kp ⟨k.size, fun j hj hl => k.block j hl (fun e => by have := hB j e.symm; omega)⟩, h.glb.kp ⟨k.size, fun j hj hl => k.block j hl (fun e => by have := hB j e.symm; omega)⟩⟩
 refine h.row.kept k ?_
 cases hv : kv.ownBlock with
 | none => exact .inl rfl
 | some j => exact .inr (fun e => hk j hv (by rw [← e]))
theorem Rs.far {p : Addr} (h : Rs B b F G kv fv gv N n w) (hb : b ≠ p.block) (hk : kv.ownBlock ≠ some p.block) (hB : B ≤ p.block) (u : Value) : Rs B b F G kv fv gv N n (w.setCell p u) :=
 h.grown (r := some p.block) ⟨rfl, rfl, rfl, by simp [World.setCell], fun j _ hj => Below.heap_setCell _ _ _ _ (fun e => hj (by rw [e]))⟩ (fun e => hb (by cases e; rfl)) (fun j hj e => hk (by rw [hj, e])) (fun j e => by cases e; exact hB)
def AllOk (l : List Nd) : Prop := ∀ (B b : Nat) (F G : List Bytes) (kv fv gv lv : Value) (N : List Kn) (n : Nat) (w : World), Rs B b F G kv fv gv N n w → n ≤ 60 → N.length ≤ n → B ≤ w.heap.size → Tree (fun j => j < B) w lv l →
 Calls Tryz.prog 25 #[.pointer (some ⟨b, 0, none⟩), lv] w (IsO B b F G kv fv gv N (allR F G true l N n) w)
def OneOk (f : Nat) (x : Nd) (R : List Bytes → List Bytes → List Kn → Nat → RE (It × Nat)) : Prop := ∀ (B b : Nat) (F G : List Bytes) (kv fv gv : Value) (ka na : Option Addr) (kc nc : Nat) (N : List Kn) (n : Nat) (w : World), Rs B b F G kv fv gv N n w → n ≤ 60 → N.length ≤ n → B ≤ w.heap.size → Tree (fun j => j < B) w (.slice ka x.kids.length kc) x.kids → Rd (fun j => j < B) strV w (.slice na x.names.length nc) x.names →
 Calls Tryz.prog f #[.pointer (some ⟨b, 0, none⟩), .agg #[.int .i64 x.kind, .string ⟨x.name.toArray⟩, .int .i64 x.num, .slice ka x.kids.length kc, .slice na x.names.length nc, .int .i64 x.at_]] w (ItO B b F G kv fv gv N (R F G N n) w)
def gluI (o : List It) : RE (List It × Nat) → RE (List It × Nat)
 | .error E => .error E
 | .ok (is, n) => .ok (o ++ is, n)
theorem glu_step (F G : List Bytes) (x : Nd) (l : List Nd) (N : List Kn) (n : Nat) (o : List It) : gluI o (allR F G true (x :: l) N n) = match oneR F G true x N n with
  | .error E => .error E
  | .ok (i, n1) => gluI (o ++ [i]) (allR F G true l N n1) := by
 rw [allR_cons]
 cases oneR F G true x N n with
 | error E => rfl
 | ok r =>
  obtain ⟨i, n1⟩ := r
  simp only
  cases allR F G true l N n1 with
  | error E => rfl
  | ok r2 =>
   obtain ⟨is, n2⟩ := r2
   simp [gluI]
theorem oneR_le {F G : List Bytes} {sup : Bool} {x : Nd} {i : It} {n1 : Nat} (h : oneR F G sup x N n = .ok (i, n1)) : n ≤ n1 ∧ (n ≤ 60 → n1 ≤ 60) :=
 allR_le (cntL [x] + 1) [x] F G sup N n [i] n1 (by omega) (by rw [allR_cons, h]; simp only [allR_nil])
set_option maxRecDepth 100000 in
set_option maxHeartbeats 3200000 in
theorem all_step (l : List Nd) (hlen : l.length ≤ 100000) (HI : ∀ x ∈ l, OneOk 48 x (fun F G N n => oneR F G true x N n)) : AllOk l := by
 intro B b F G kv fv gv lv N n w hR hn hN hB hT
 have hlo := hR.lo
 have hbl := hR.blk.lt
 have hrlt := hR.row.lt
 obtain ⟨la, lc, rfl, -, -⟩ := hT.form
 obtain ⟨i0, hi, hz0, hz1, hz2⟩ := info_parts (show (Tryz.prog.info? IT).map (fun i => (i.zero, i.size, i.bytes)) = some (some (.agg #[.int .i64 0, .string ⟨#[]⟩, .int .i64 0, .int .i64 0, .int .i64 0, .slice none 0 0]), 6, 72) by kernel_rfl)
 have tsl : Tryz.prog.underlying 35 = some (.slice IT) := by kernel_rfl
 obtain ⟨R, hRR⟩ : ∃ R, allR F G true l N n = R := ⟨_, rfl⟩
 rw [hRR]
 obtain ⟨ll, hll⟩ : ∃ k, l.length = k := ⟨_, rfl⟩
 rw [hll] at hT hlen
 have hg0 : gluI [] (allR F G true (l.drop 0) N n) = R := by
  rw [List.drop_zero, hRR]
  cases R with
  | error E => rfl
  | ok r => rfl
 rw [hll]
 have HG0 := Lib.hid hg0
 have HLL := Lib.hid hll
 have HT := Lib.hid hT
 have HR := Lib.hid hR
 have HRL := Lib.hid hrlt
 have HII := Lib.hid HI
 clear hg0 hll hT hR hrlt hRR HI
 go_enter Tryz.func25, Tryz.ntmps25
 go_wp2_with fail
 go_loopw [10, 5] (fun y o wr => ∃ (k m : Nat) (out : List It) (kv' : Value), y = .int .i64 (k : Int) ∧ k ≤ ll ∧ out.length = k ∧ N.length ≤ m ∧ m ≤ 60 ∧ Hid (gluI out (allR F G true (l.drop k) N m) = R) ∧ Hid (Out w.heap.size kv' wr o out) ∧ Hid (Rs B b F G kv' fv gv N m wr) ∧ Hid (Near w kv kv') ∧ Hid (Mv2 b kv.ownBlock w wr)) (fun y _ _ => ll - (intOf y).toNat)
 case atStart => exact ⟨0, n, [], kv, rfl, by omega, rfl, hN, hn, HG0, Lib.hid (Out.nil _ _ _), HR, Lib.hid (Near.refl _ _), Lib.hid (Mv2.refl _ _ _)⟩
 obtain ⟨k, m, out, kv', rfl, hk, hol, hNm, hm60, HE, HO, HK, HNR, HMV⟩ := hrel
 have HBB := Lib.hid (HMV.out.below hlo (fun j hj => (HRL.out j hj).1) hB)
 have hms := HMV.out.size
 by_cases hkl : k < ll
 · have hd : decide ((k : Int) < (ll : Int)) = true := decide_eq_true (by omega)
   have hT1 : Tree (fun j => j < B) wr (.slice la ll lc) l := HT.out.kp (Kp.lt HBB.out)
   obtain ⟨gb, off, x, ka, kc, na, nc, rfl, hx, hgb, hgB, hrow, hxk, hxn⟩ := hT1.nth k hkl
   have hE := HE.out
   have hdr : l.drop k = x :: l.drop (k + 1) := by rw [List.drop_eq_getElem_cons (by have := HLL.out; omega)]; congr 1; exact (List.getElem?_eq_some_iff.1 hx).2
   rw [hdr, glu_step] at hE
   have hii := HII.out x (List.mem_of_getElem? hx)
   obtain ⟨E, hEE⟩ : ∃ E, oneR F G true x N m = E := ⟨_, rfl⟩
   have hle := fun i n1 (h : E = .ok (i, n1)) => oneR_le (hEE.trans h)
   have hC := fun w1 (hb : Below wr.heap.size wr w1) => hii B b F G kv' fv gv ka na kc nc N m w1 (HK.out.bel hb) hm60 hNm (Nat.le_trans (Nat.le_trans hB hms) hb.size) (hxk.bel hb) (hxn.below hb)
   rw [hEE] at hE
   simp only [hEE] at hC
   have HC := Lib.hid hC
   have HEE := Lib.hid hE
   obtain ⟨y0, y1, y2, y3, y4, y5⟩ := hrow
   have hkw : IntKind.i64.wrap ((k : Int) + 1) = (k : Int) + 1 := IntWalk.i64_in _ (by omega)
   clear hC hE hEE hdr hx hii hT1 hxk hxn HE
   have hbbA := alloc_bel wr (.cells #[.int .i64 x.kind, .string ⟨x.name.toArray⟩, .int .i64 x.num, .slice ka x.kids.length kc, .slice na x.names.length nc, .int .i64 x.at_] NDT)
   have hMkA := Blk.made (T := NDT) (cs := #[.int .i64 x.kind, .string ⟨x.name.toArray⟩, .int .i64 x.num, .slice ka x.kids.length kc, .slice na x.names.length nc, .int .i64 x.at_]) wr
   obtain ⟨W1, halA⟩ : ∃ W, wr.alloc (.cells #[.int .i64 x.kind, .string ⟨x.name.toArray⟩, .int .i64 x.num, .slice ka x.kids.length kc, .slice na x.names.length nc, .int .i64 x.at_] NDT) = W := ⟨_, rfl⟩
   rw [halA] at hbbA hMkA
   have e0 := hMkA.c 0 _ rfl
   have e1 := hMkA.c 1 _ rfl
   have e2 := hMkA.c 2 _ rfl
   have e3 := hMkA.c 3 _ rfl
   have e4 := hMkA.c 4 _ rfl
   have e5 := hMkA.c 5 _ rfl
   have HA := Lib.hid hbbA
   clear hbbA hMkA
   go_wp2_with fail
   refine (HC.out W1 HA.out).mono ?_; intro e w2 ht
   clear e0 e1 e2 e3 e4 e5 y0 y1 y2 y3 y4 y5
   cases E with
   | error z =>
    obtain ⟨rfl, hb2⟩ := ht
    have hR : Except.error z = R := HEE.out
    subst hR
    have HB2 := Lib.hid ((HBB.out.trans (HA.out.mono (by omega))).trans hb2)
    go_wp2_with fail
    exact ⟨rfl, rfl, HB2.out⟩
   | ok z =>
    obtain ⟨i, m2⟩ := z
    obtain ⟨ikv, kv2, rfl, hits, hr2, hn2, hm2⟩ := ht
    obtain ⟨l1, l2⟩ := hle _ _ rfl
    have hE2 : gluI (out ++ [i]) (allR F G true (l.drop (k + 1)) N m2) = R := HEE.out
    have hAs := HA.out.size
    have hm2s := hm2.size
    have hO1 := HO.out.bel HA.out
    have hN1 : Near W1 kv' kv2 := hn2
    have hO2 := hO1.step (b := b) (by omega) hm2 hN1
    have hits2 := hits.age (A := w.heap.size) (by omega)
    have hMV2 := (HMV.out.bel HA.out).trans (kv' := kv') (fun j hj => by rcases HNR.out j hj with h | h; exact .inl h; exact .inr h) hm2
    have hNR2 : Near w kv kv2 := HNR.out.trans (w' := wr) (fun j hj => by rcases hn2 j hj with h | h; exact .inl h; exact .inr (by omega)) HMV.out.size
    obtain ⟨ia, ic, rfl, -, -⟩ := hits.form
    obtain ⟨⟨vl, hvl, hrow, hsub⟩, hap, -⟩ := hO2
    have hvll : vl.length = out.length := by have := congrArg List.length hvl; rwa [List.length_map] at this
    have hob := hrow.lt
    have hrk := hr2.row.lt
    have hob1 : ∀ j, u5.ownBlock = some j → j < W1.heap.size := fun j hj => (hO1.1.lt j hj).2
    have hbbB := alloc_bel w2 (.cells #[.int .i64 i.kind, .string ⟨i.name.toArray⟩, .int .i64 i.num, .int .i64 i.slot, .int .i64 i.width, .slice ia i.kids.length ic] IT)
    have hMkB := Blk.made (T := IT) (cs := #[.int .i64 i.kind, .string ⟨i.name.toArray⟩, .int .i64 i.num, .int .i64 i.slot, .int .i64 i.width, .slice ia i.kids.length ic]) w2
    have hszB : (w2.alloc (.cells #[.int .i64 i.kind, .string ⟨i.name.toArray⟩, .int .i64 i.num, .int .i64 i.slot, .int .i64 i.width, .slice ia i.kids.length ic] IT)).heap.size = w2.heap.size + 1 := by simp
    obtain ⟨W3, halB⟩ : ∃ W, w2.alloc (.cells #[.int .i64 i.kind, .string ⟨i.name.toArray⟩, .int .i64 i.num, .int .i64 i.slot, .int .i64 i.width, .slice ia i.kids.length ic] IT) = W := ⟨_, rfl⟩
    rw [halB] at hbbB hMkB hszB
    have hnews := World.news_of_block hMkB
    have hI3 : Its (fun j => Nw w.heap.size kv2 j ∧ u5.ownBlock ≠ some j) W3 (.slice ia i.kids.length ic) i.kids := (hits.mono (fun j hj hl => ⟨⟨by have := hj.1; omega, hj.2⟩, fun e => by have := hob1 j e; have := hj.1; omega⟩)).bel hbbB
    have hsub3 : ∀ y ∈ vl, Its (fun j => Nw w.heap.size kv2 j ∧ u5.ownBlock ≠ some j) W3 y.2 y.1.kids := fun y hy => (hsub y hy).bel hbbB
    have hrow3 : W3.ownsRow w.heap.size IT 6 u5 vl.length (flatI vl) := own_below hrow hbbB
    have hr3 := hr2.bel hbbB
    have hM3 := hMV2.bel hbbB
    have HROW := Lib.hid hrow3
    have HSUB := Lib.hid hsub3
    have HI3 := Lib.hid hI3
    have HR3 := Lib.hid hr3
    have HM3 := Lib.hid hM3
    have HNR2 := Lib.hid hNR2
    have HNEWS := Lib.hid hnews
    have HVL := Lib.hid hvl
    have HAP := Lib.hid hap
    have HOB := Lib.hid hob
    have HRK := Lib.hid hrk
    have HE2 := Lib.hid hE2
    clear hrow hsub hrow3 hsub3 hI3 hr3 hM3 hNR2 hnews hvl hap hob hrk hE2 hbbB hMkB hO1 hN1 hits hits2 hMV2 hr2 hn2 hm2 hob1 HO HK HNR HMV HBB hle HC HEE
    unfold itV
    go_wp2_with (at_builtin; refine wpList_append_lies _ rfl _ _ 35 rfl w.heap.size IT i0 (.agg #[.int .i64 0, .string ⟨#[]⟩, .int .i64 0, .int .i64 0, .int .i64 0, .slice none 0 0]) 6 72 tsl hi hz0 hz1 hz2 rfl (by decide) _ vl.length (flatI vl) rfl HROW.out ⟨w2.heap.size, 0, none⟩ 1 1 [.int .i64 i.kind, .string ⟨i.name.toArray⟩, .int .i64 i.num, .int .i64 i.slot, .int .i64 i.width, .slice ia i.kids.length ic] rfl rfl HNEWS.out (fun u hu => by simp at hu; rcases hu with rfl | rfl | rfl | rfl | rfl | rfl <;> rfl) (by decide) (by unfold maxLen; omega) (by omega) (by omega) _ rfl ?_)
    intro g cap w5 hown5 hgrow5 hat5 hlt5
    have hsn := ownI_snoc (n := k) (S := Nw w.heap.size kv2) (x := i) (kv := .slice ia i.kids.length ic) (by omega) hgrow5.size HSUB.out HI3.out hown5 hgrow5 (by rw [hszB]; exact hat5)
    rw [HVL.out] at hsn
    have hap5 : ∀ j, (Value.slice (some ⟨g, 0, none⟩) (k + 1) cap).ownBlock = some j → kv2.ownBlock ≠ some j := fun j hj => by
     have hj : some g = some j := hj
     cases hj
     rcases hat5 with h | h
     · exact HAP.out g h
     intro e; have := (HRK.out g e).2; omega
    have hr5 := HR3.out.grown hgrow5 (fun e => by have := (HOB.out b e.symm).1; omega) (fun j hj e => HAP.out j e.symm hj) (fun j hj => by have := (HOB.out j hj).1; omega)
    have hm5 := HM3.out.grown hgrow5 (fun j hj => (HOB.out j hj).1)
    have HO5 := Lib.hid (show Out w.heap.size kv2 w5 _ _ from ⟨hsn, hap5, fun h => by simp at h⟩)
    have HR5 := Lib.hid hr5
    have HM5 := Lib.hid hm5
    clear hsn hap5 hr5 hm5 hown5 hgrow5 hat5 HROW HSUB HI3 HR3 HM3 HNEWS HAP HOB HRK
    go_wp2_with fail
    exact ⟨⟨k + 1, m2, out ++ [i], kv2, by simp, by omega, by rw [List.length_append]; simp; omega, by omega, by omega, HE2, HO5, HR5, HNR2, HM5⟩, by simp only [intOf]; omega⟩
 have hd : decide ((k : Int) < (ll : Int)) = false := decide_eq_false (by omega)
 have hE := HE.out
 rw [List.drop_eq_nil_of_le (by have := HLL.out; omega), allR_nil] at hE
 have hE : Except.ok (out ++ [], m) = R := hE
 rw [List.append_nil] at hE
 subst hE
 go_wp2_with fail
 go_ret
 exact ⟨_, kv', rfl, HO.out, HK.out, HNR.out, HMV.out⟩
end
end Rv
end Go.Proofs.YtmmgfifpjifjnaaGreatDoor
