/- Package tree, the walk: all nodes; pattern; Print (printed by gen_trba.py, hdx.py). -/
import Derived.Test.YtbdgoimbddlcoaaGreatDoorTrB9
import Derived.Test.YtbdgoimbddlcoaaGreatDoorTrWb
set_option linter.unusedVariables false
namespace Go.Proofs.YtbdgoimbddlcoaaGreatDoor
open Go.RowKit
namespace Tr
open Bs Sm
theorem msg_text {x : Nd} (h : x.kind = 7) : (txt x).1 = sendT txt x ∧ (txt x).2 = msgT txt x := by
 rw [txt_eq]
 simp [nodeT, h]
theorem node_all (B b : Nat) : ∀ (m : Nat) (x : Nd), cntL x.kids < m → Gd x → cntL x.kids ≤ 900000 → NodeOk B b x ∧ (x.kind = 7 → MsgOk B b x ∧ SendOk B b x) ∧ (x.kind = 4 → ListOk B b x)
 | 0, x, h, _, _ => by omega
 | m + 1, x, h, hg, hc => by
  have IH : ∀ y ∈ x.kids, NodeOk B b y ∧ (y.kind = 7 → MsgOk B b y ∧ SendOk B b y) ∧ (y.kind = 4 → ListOk B b y) := fun y hy =>
   node_all B b m y (by have := cnt_mem hy; omega) (hg.of_mem hy) (by have := cnt_mem hy; omega)
  have hsh := hg.parts.1
  have hin := sh_in hsh
  have hkl : x.kids.length ≤ 1000000 := by have := len_le_cnt x.kids; omega
  have hbig := hg.nice.2
  have IK : ∀ i, i < x.kids.length → NodeOk B b (kid x i) ∧ (kid x i).name.length ≤ 1000000 := fun i hi => ⟨(IH _ (kid_mem x i hi)).1, (hg.kid i hi).name⟩
  have hmsg : x.kind = 7 → MsgOk B b x := fun h7 => by
   obtain ⟨ha, hkn⟩ := sh7 h7 hsh
   intro acc kv nv w hI hB hE hk hn hlen
   rcases rank_cases ha with ⟨r, _⟩ | ⟨r, ha1⟩ | ⟨r, _, _, hpl⟩
   · exact message_name r hg.name hI hB hE hk hn hlen
   · exact message_op r hg.name (by omega) (IK 1 (by omega)).1 (IK 1 (by omega)).2 hI hB hE hk hn hlen
   · exact message_kw r hg.name (by omega) hkl (fun y hy => ⟨(IH y hy).1, (hg.of_mem hy).name⟩) hI hB hE hk hn hlen
  have hsend : x.kind = 7 → SendOk B b x := fun h7 => by
   obtain ⟨ha, hkn⟩ := sh7 h7 hsh
   intro acc kv nv w hI hB hE hk hn hlen
   exact send_any hg.name (by omega) (IK 0 (by omega)).1 (IK 0 (by omega)).2 (hmsg h7) hI hB hE hk hn hlen
  have hlist : x.kind = 4 → ListOk B b x := fun h4 => list_step (fun y hy => ⟨(IH y hy).1, (IH y hy).2.2⟩)
  refine ⟨?_, fun h7 => ⟨hmsg h7, hsend h7⟩, hlist⟩
  obtain h1 | h1 | h1 | h1 | h1 | h1 | h1 | h1 | h1 | h1 | h1 : x.kind = 1 ∨ x.kind = 2 ∨ x.kind = 3 ∨ x.kind = 4 ∨ x.kind = 5 ∨ x.kind = 6 ∨ x.kind = 7 ∨ x.kind = 8 ∨ x.kind = 9 ∨ x.kind = 10 ∨ x.kind = 11 := by omega
  · exact node1 h1 hg.nice.1.2.2
  · exact node2 h1 (by unfold bigB at hbig; simp [h1] at hbig; exact hbig)
  · exact node3 h1 (by unfold bigB at hbig; simp [h1] at hbig; exact hbig)
  · exact node4 h1 (hlist h1)
  · exact node5 h1
  · obtain ⟨_, hk1⟩ := sh6 h1 hsh
    exact node6 h1 hk1 (IK 0 (by omega)).1
  · obtain ⟨ha, hkn⟩ := sh7 h1 hsh
    exact node7 h1 hg.name (by omega) (IK 0 (by omega)).1 (IK 0 (by omega)).2 (hmsg h1)
  · have hk2 := sh8 h1 hsh
    obtain ⟨c1, c2, c3⟩ := sh_casc h1 hg.parts.2.1 hk2
    refine node8 h1 hk2 ((IH _ (kid_mem x 0 (by omega))).2.1 c1).2 (msg_text c1).1 (fun i h0 hi => ?_)
    have c7 : (kid x i).kind = 7 := by
     have := c3 i h0 hi
     unfold holed at this
     simp only [Bool.and_eq_true, beq_iff_eq] at this
     exact this.1
    exact ⟨((IH _ (kid_mem x i hi)).2.1 c7).1, (msg_text c7).2⟩
  · obtain ⟨a, b', _⟩ := sh9 h1 hsh
    exact node9 h1 (fun y hy => (IH y hy).1) a b' (by have := hg.nice.1.2.1; omega)
  · have hk1 := sh10 h1 hsh
    exact node10 h1 hk1 (IK 0 (by omega)).1
  · exact node11 h1
theorem Gd.node {x : Nd} (hg : Gd x) (hc : cntL x.kids ≤ 900000) (B b : Nat) : NodeOk B b x := (node_all B b _ x (Nat.lt_succ_self _) hg hc).1
/-- A method's first words. -/
def patT (m : Mt) : Bytes := if rankS m.name = 3 then m.name else if rankS m.name = 2 then m.name ++ ([32] ++ m.params.getD 0 []) else spreadT m.name (fun i => m.params.getD i []) (partsL m.name).length
/-- What the function that writes a pattern's parameter looks at. -/
structure PtAt (B b k1 k2 : Nat) (m : Mt) (pa ta ba : Option Addr) (pl pc tl tc bl bc : Nat) (w : World) : Prop where
 p1 : Blk 132 k1 #[.pointer (some ⟨b, 0, none⟩)] w
 p2 : Blk 28 k2 #[.string ⟨m.name.toArray⟩, .slice pa pl pc, .slice ta tl tc, .int .i64 m.prim, .slice ba bl bc, .int .i64 m.at_] w
 n1 : k1 ≠ b
 n2 : k2 ≠ b
 names : Rd (fun b => b < B) strV w (.slice pa pl pc) m.params
section
variable {B b : Nat} {acc : Bytes} {m : Mt} {pa ta ba : Option Addr} {pl pc tl tc bl bc : Nat} {w : World}
theorem PtAt.keep {k1 k2 : Nat} {w' : World} (h : PtAt B b k1 k2 m pa ta ba pl pc tl tc bl bc w) (hk : KeepT b U8 w w') (hb : Below B w w') : PtAt B b k1 k2 m pa ta ba pl pc tl tc bl bc w' :=
 ⟨hk.blk h.p1 h.n1 (by decide), hk.blk h.p2 h.n2 (by decide), h.n1, h.n2, h.names.kp (Kp.lt hb)⟩
theorem ent79 : Ent 80 := enters_of Tryz.func80 (by kernel_rfl) rfl
set_option maxRecDepth 100000 in
set_option maxHeartbeats 1600000 in
theorem behind_pt (k1 k2 : Nat) (n : Nat) (hn : n ≤ m.params.length) :
  Behind B b (PtAt B b k1 k2 m pa ta ba pl pc tl tc bl bc) 80 #[.pointer (some ⟨k1, 0, none⟩), .pointer (some ⟨k2, 0, none⟩)] (fun i => m.params.getD i []) n 140737488355328 := by
 refine ⟨ent79, fun w w' h hk hb => h.keep hk hb, ?_⟩
 intro i acc w him hInv hI hB hlen
 obtain ⟨gb, off, s, rfl, hs, hgb, hcx⟩ := hInv.names.at_ i (by obtain ⟨_, _, e, _⟩ := hInv.names; have := (Value.slice.inj e).2.1; omega)
 have hlt : gb < B := by
  obtain ⟨_, _, e, _, _, _, h4⟩ := hInv.names
  obtain ⟨e1, e2, e3⟩ := Value.slice.inj e
  obtain ⟨b', off', k1, k0, _⟩ := h4 (by omega)
  rw [← e1] at k1
  cases k1
  exact k0
 have hgd : m.params.getD i [] = s := by rw [List.getD_eq_getElem?_getD, hs]; rfl
 have hil : i < pl := by obtain ⟨_, _, e, _⟩ := hInv.names; have := (Value.slice.inj e).2.1; omega
 have hpc : pl ≤ pc ∧ pc ≤ maxLen := by obtain ⟨_, _, e, e2, e3, _⟩ := hInv.names; obtain ⟨_, q1, q2⟩ := Value.slice.inj e; omega
 unfold maxLen at hpc
 show Calls _ _ #[.int .i64 (i : Int), .pointer (some ⟨k1, 0, none⟩), .pointer (some ⟨k2, 0, none⟩)] w _
 simp only [hgd] at hlen ⊢
 unfold strV at hcx
 have HLEN := Lib.hid hlen
 have HST0 := Lib.hid (St.start hI hB)
 have HP1 := Lib.hid hInv.p1
 have HP2 := Lib.hid hInv.p2
 have HCX := Lib.hid hcx
 have hci : 0 ≤ (i : Int) ∧ (i : Int) < (pl : Int) := by omega
 clear hs hgd hlen hI hInv hcx
 go_enter Tryz.func80, Tryz.ntmps80
 go_upto_region 0 with fail
 have hS : ∀ v, Below w.heap.size w v → (v.cell? ⟨k1, 0, none⟩ = some (.pointer (some ⟨b, 0, none⟩)) ∧ v.cell? ⟨k2, 1, none⟩ = some (.slice (some ⟨gb, off, none⟩) pl pc) ∧ v.cell? ⟨gb, off + i, none⟩ = some (.string ⟨s.toArray⟩)) := fun v hv => by
  exact ⟨(HP1.out.below hv HP1.out.lt).c 0 _ rfl, (HP2.out.below hv HP2.out.lt).c 1 _ rfl, ((hv.cell (p := ⟨gb, off + i, none⟩) hgb)).trans HCX.out⟩
 have hXa := alloc_bel w.drew (.cells #[.string ⟨s.toArray⟩] 9)
 have HST1 := Lib.hid (HST0.out.go (Below.refl _ w).drew)
 have HPUT := Lib.hid (put1 (w := w.drew) s HST1.out.isb HLEN.out HST1.out.siz)
 have HS3 := Lib.hid (hS _ ((Below.refl _ w).drew.trans hXa))
 clear hXa
 refine wp_region_noPanic ?_
 refine Hd.start (fun v => v.cell? ⟨k1, 0, none⟩ = some (.pointer (some ⟨b, 0, none⟩)) ∧ v.cell? ⟨k2, 1, none⟩ = some (.slice (some ⟨gb, off, none⟩) pl pc) ∧ v.cell? ⟨gb, off + i, none⟩ = some (.string ⟨s.toArray⟩)) (by kernel_rfl) (hS _ (Below.refl _ w).drew) (fun hH0 => ?_)
 refine Hd.tk 0 7 hH0 ?_
 refine Hd.tk 1 2 hH0 ?_
 refine Hd.tk 2 4 hH0 ?_
 refine Hd.tk 3 4 hH0 ?_
 refine Hd.tk 4 5 hH0 ?_
 refine Hd.tk 5 6 hH0 ?_
 refine Hd.on 6 (fun K hK => ?_)
 go_simp
 refine hK.out _ _ HS3.out (fun hH1 => ?_)
 clear hK K
 try simp only [Act.put, Hd.sa, Hd.sz, Hd.ss]
 refine Hd.la 7 (fun K hK => ?_)
 go_simp
 refine HPUT.out.mono ?_; rintro e w4 hW4
 obtain rfl := hW4.1
 have HST4 := Lib.hid (HST1.out.step hW4)
 clear hW4
 go_wp2_with fail
 refine hK.out _ _ ?_
 clear hK K
 try simp only [Act.put, Hd.sa, Hd.sz, Hd.ss]
 simp only [NoPanic]
 clear hS hH0 hH1
 go_wp2_with fail
 go_end0
 exact HST4.out.done
set_option maxRecDepth 100000 in
set_option maxHeartbeats 1600000 in
theorem pattern_name (hr : rankS m.name = 3) (hnm : m.name.length ≤ 1000000) (hI : Lib.IsBuilder OT U8 B b (Lib.byteCells acc) w) (hB : B ≤ w.heap.size) (hE : Env B w) (hm : MtAt (fun b => b < B) w m (.slice pa pl pc) (.slice ta tl tc) (.slice ba bl bc)) (hlen : acc.length + (patT m).length ≤ 140737488355328) :
  Calls Tryz.prog 40 #[.pointer (some ⟨b, 0, none⟩), mtV m (.slice pa pl pc) (.slice ta tl tc) (.slice ba bl bc)] w (Wr B b acc (patT m) w) := by
 have HX1 := alloc_bel w (.cells #[.pointer (some ⟨b, 0, none⟩)] 132)
 have HX2 := alloc_bel (w.alloc (.cells #[.pointer (some ⟨b, 0, none⟩)] 132)) (.cells #[.string ⟨m.name.toArray⟩, .slice pa pl pc, .slice ta tl tc, .int .i64 m.prim, .slice ba bl bc, .int .i64 m.at_] 28)
 have HB1 := (Blk.made (T := 132) (cs := #[.pointer (some ⟨b, 0, none⟩)]) w).alloc (.cells #[.string ⟨m.name.toArray⟩, .slice pa pl pc, .slice ta tl tc, .int .i64 m.prim, .slice ba bl bc, .int .i64 m.at_] 28)
 have HB2 := Blk.made (T := 28) (cs := #[.string ⟨m.name.toArray⟩, .slice pa pl pc, .slice ta tl tc, .int .i64 m.prim, .slice ba bl bc, .int .i64 m.at_]) (w.alloc (.cells #[.pointer (some ⟨b, 0, none⟩)] 132))
 have hz : (w.alloc (.cells #[.pointer (some ⟨b, 0, none⟩)] 132)).heap.size = w.heap.size + 1 := by simp
 rw [hz] at HB2
 have HST0 := Lib.hid (((St.start hI hB).go HX1).go HX2)
 have HR := fun w' => rank_any m.name hnm w'
 rw [hr] at HR
 unfold strV at HR
 unfold patT at hlen ⊢
 rw [if_pos hr] at hlen ⊢
 replace HR := Lib.hid HR
 replace HB1 := Lib.hid HB1
 replace HB2 := Lib.hid HB2
 unfold mtV
 clear hI hE hm hr HX1 HX2 hz
 go_enter Tryz.func40, Tryz.ntmps40
 go_wp2_with fail
 refine (HR.out _).mono ?_; rintro e w1 ⟨rfl, hb1⟩
 have HST1 := Lib.hid (HST0.out.go hb1)
 have d0 := (HB1.out.below hb1 HB1.out.lt).c 0 _ rfl
 have hk1 := HB2.out.below hb1 HB2.out.lt
 have c1 := hk1.c 0 _ rfl
 clear hb1 hk1
 go_wp2_with fail
 refine (put1 m.name HST1.out.isb hlen HST1.out.siz).mono ?_; rintro e w2 hW2
 obtain rfl := hW2.1
 have HST2 := Lib.hid (HST1.out.step hW2)
 clear hW2 c1 d0
 go_wp2_with fail
 go_end0
 exact HST2.out.done
set_option maxRecDepth 100000 in
set_option maxHeartbeats 1600000 in
theorem pattern_op (hr : rankS m.name = 2) (hpl : 1 ≤ m.params.length) (hnm : m.name.length ≤ 1000000) (hI : Lib.IsBuilder OT U8 B b (Lib.byteCells acc) w) (hB : B ≤ w.heap.size) (hE : Env B w) (hm : MtAt (fun b => b < B) w m (.slice pa pl pc) (.slice ta tl tc) (.slice ba bl bc)) (hlen : acc.length + (patT m).length ≤ 140737488355328) :
  Calls Tryz.prog 40 #[.pointer (some ⟨b, 0, none⟩), mtV m (.slice pa pl pc) (.slice ta tl tc) (.slice ba bl bc)] w (Wr B b acc (patT m) w) := by
 have hpl2 : m.params.length = pl := by obtain ⟨_, _, e, _⟩ := hm.params; exact (Value.slice.inj e).2.1.symm
 have hpc : pl ≤ pc ∧ pc ≤ maxLen := by obtain ⟨_, _, e, e2, e3, _⟩ := hm.params; obtain ⟨_, q1, q2⟩ := Value.slice.inj e; omega
 unfold maxLen at hpc
 obtain ⟨gb, off, s, rfl, hs, hgb, hcx⟩ := hm.params.at_ 0 (by omega)
 have hgd : m.params.getD 0 [] = s := by rw [List.getD_eq_getElem?_getD, hs]; rfl
 have HX1 := alloc_bel w (.cells #[.pointer (some ⟨b, 0, none⟩)] 132)
 have HX2 := alloc_bel (w.alloc (.cells #[.pointer (some ⟨b, 0, none⟩)] 132)) (.cells #[.string ⟨m.name.toArray⟩, .slice (some ⟨gb, off, none⟩) pl pc, .slice ta tl tc, .int .i64 m.prim, .slice ba bl bc, .int .i64 m.at_] 28)
 have HB1 := (Blk.made (T := 132) (cs := #[.pointer (some ⟨b, 0, none⟩)]) w).alloc (.cells #[.string ⟨m.name.toArray⟩, .slice (some ⟨gb, off, none⟩) pl pc, .slice ta tl tc, .int .i64 m.prim, .slice ba bl bc, .int .i64 m.at_] 28)
 have HB2 := Blk.made (T := 28) (cs := #[.string ⟨m.name.toArray⟩, .slice (some ⟨gb, off, none⟩) pl pc, .slice ta tl tc, .int .i64 m.prim, .slice ba bl bc, .int .i64 m.at_]) (w.alloc (.cells #[.pointer (some ⟨b, 0, none⟩)] 132))
 have hz : (w.alloc (.cells #[.pointer (some ⟨b, 0, none⟩)] 132)).heap.size = w.heap.size + 1 := by simp
 rw [hz] at HB2
 have HST0 := Lib.hid (((St.start hI hB).go HX1).go HX2)
 have HR := fun w' => rank_any m.name hnm w'
 rw [hr] at HR
 unfold strV at HR
 unfold patT at hlen ⊢
 rw [if_neg (by omega), if_pos hr, hgd] at hlen ⊢
 unfold strV at hcx
 rw [Nat.add_zero] at hcx
 replace HR := Lib.hid HR
 replace HB1 := Lib.hid HB1
 replace HB2 := Lib.hid HB2
 have HCX := Lib.hid hcx
 have HLEN := Lib.hid hlen
 have HXX := Lib.hid (HX1.trans (HX2.mono HX1.size))
 unfold mtV
 have hci : decide ((0 : Int) < (pl : Int)) = true := decide_eq_true (by omega)
 have hci2 : 0 < pl := by omega
 clear hI hE hm hr HX1 HX2 hz hcx hs hgd hlen hpl2 hpl
 go_enter Tryz.func40, Tryz.ntmps40
 go_wp2_with fail
 refine (HR.out _).mono ?_; rintro e w1 ⟨rfl, hb1⟩
 have HST1 := Lib.hid (HST0.out.go hb1)
 have hp1 := HB1.out.below hb1 HB1.out.lt
 have hp2 := HB2.out.below hb1 HB2.out.lt
 have HP1 := Lib.hid hp1
 have HP2 := Lib.hid hp2
 have hbb : Below w.heap.size w w1 := HXX.out.trans (hb1.mono HXX.out.size)
 have HC1 : Hid (w1.cell? ⟨gb, off, none⟩ = some (.string ⟨s.toArray⟩)) := Lib.hid ((hbb.cell (p := ⟨gb, off, none⟩) hgb).trans HCX.out)
 have hg1 : gb < w1.heap.size := Nat.lt_of_lt_of_le hgb hbb.size
 clear hb1 hp1 hp2 hbb
 go_upto_region 6 with fail
 have hS : ∀ v, Below w1.heap.size w1 v → (v.cell? ⟨w.heap.size, 0, none⟩ = some (.pointer (some ⟨b, 0, none⟩)) ∧ v.cell? ⟨w.heap.size + 1, 0, none⟩ = some (.string ⟨m.name.toArray⟩) ∧ v.cell? ⟨w.heap.size + 1, 1, none⟩ = some (.slice (some ⟨gb, off, none⟩) pl pc) ∧ v.cell? ⟨gb, off, none⟩ = some (.string ⟨s.toArray⟩)) := fun v hv => by
  exact ⟨(HP1.out.below hv HP1.out.lt).c 0 _ rfl, (HP2.out.below hv HP2.out.lt).c 0 _ rfl, (HP2.out.below hv HP2.out.lt).c 1 _ rfl, ((hv.cell (p := ⟨gb, off, none⟩) hg1)).trans HC1.out⟩
 have hXa := alloc_bel w1.drew (.cells #[.string ⟨m.name.toArray⟩, .string ⟨#[32]⟩, .string ⟨s.toArray⟩] 9)
 have HST2 := Lib.hid (HST1.out.go (Below.refl _ w1).drew)
 have HPUT := Lib.hid (put3 (w := w1.drew) m.name [32] s HST2.out.isb HLEN.out HST2.out.siz)
 have HS3 := Lib.hid (hS _ ((Below.refl _ w1).drew.trans hXa))
 clear hXa
 refine wp_region_noPanic ?_
 refine Hd.start (fun v => v.cell? ⟨w.heap.size, 0, none⟩ = some (.pointer (some ⟨b, 0, none⟩)) ∧ v.cell? ⟨w.heap.size + 1, 0, none⟩ = some (.string ⟨m.name.toArray⟩) ∧ v.cell? ⟨w.heap.size + 1, 1, none⟩ = some (.slice (some ⟨gb, off, none⟩) pl pc) ∧ v.cell? ⟨gb, off, none⟩ = some (.string ⟨s.toArray⟩)) (by kernel_rfl) (hS _ (Below.refl _ w1).drew) (fun hH0 => ?_)
 refine Hd.tk 0 8 hH0 ?_
 refine Hd.tk 1 2 hH0 ?_
 refine Hd.tk 2 7 hH0 ?_
 refine Hd.tk 3 4 hH0 ?_
 refine Hd.tk 4 5 hH0 ?_
 refine Hd.tk 5 6 hH0 ?_
 refine Hd.tk 6 7 hH0 ?_
 refine Hd.on 7 (fun K hK => ?_)
 go_simp
 refine hK.out _ _ HS3.out (fun hH1 => ?_)
 clear hK K
 try simp only [Act.put, Hd.sa, Hd.sz, Hd.ss]
 refine Hd.la 8 (fun K hK => ?_)
 go_simp
 refine HPUT.out.mono ?_; rintro e w4 hW4
 obtain rfl := hW4.1
 have HST4 := Lib.hid (HST2.out.step hW4)
 clear hW4
 go_wp2_with fail
 refine hK.out _ _ ?_
 clear hK K
 try simp only [Act.put, Hd.sa, Hd.sz, Hd.ss]
 simp only [NoPanic]
 clear hS hH0 hH1
 go_wp2_with fail
 go_end0
 exact HST4.out.done
set_option maxRecDepth 100000 in
set_option maxHeartbeats 1600000 in
theorem pattern_kw (hr : rankS m.name = 1) (hpl : (partsL m.name).length ≤ m.params.length) (hnm : m.name.length ≤ 1000000) (hI : Lib.IsBuilder OT U8 B b (Lib.byteCells acc) w) (hB : B ≤ w.heap.size) (hE : Env B w) (hm : MtAt (fun b => b < B) w m (.slice pa pl pc) (.slice ta tl tc) (.slice ba bl bc)) (hlen : acc.length + (patT m).length ≤ 140737488355328) :
  Calls Tryz.prog 40 #[.pointer (some ⟨b, 0, none⟩), mtV m (.slice pa pl pc) (.slice ta tl tc) (.slice ba bl bc)] w (Wr B b acc (patT m) w) := by
 have HX1 := alloc_bel w (.cells #[.pointer (some ⟨b, 0, none⟩)] 132)
 have HX2 := alloc_bel (w.alloc (.cells #[.pointer (some ⟨b, 0, none⟩)] 132)) (.cells #[.string ⟨m.name.toArray⟩, .slice pa pl pc, .slice ta tl tc, .int .i64 m.prim, .slice ba bl bc, .int .i64 m.at_] 28)
 have HB1 := (Blk.made (T := 132) (cs := #[.pointer (some ⟨b, 0, none⟩)]) w).alloc (.cells #[.string ⟨m.name.toArray⟩, .slice pa pl pc, .slice ta tl tc, .int .i64 m.prim, .slice ba bl bc, .int .i64 m.at_] 28)
 have HB2 := Blk.made (T := 28) (cs := #[.string ⟨m.name.toArray⟩, .slice pa pl pc, .slice ta tl tc, .int .i64 m.prim, .slice ba bl bc, .int .i64 m.at_]) (w.alloc (.cells #[.pointer (some ⟨b, 0, none⟩)] 132))
 have hz : (w.alloc (.cells #[.pointer (some ⟨b, 0, none⟩)] 132)).heap.size = w.heap.size + 1 := by simp
 rw [hz] at HB2
 have HST0 := Lib.hid (((St.start hI hB).go HX1).go HX2)
 have HR := fun w' => rank_any m.name hnm w'
 rw [hr] at HR
 unfold strV at HR
 unfold patT at hlen ⊢
 rw [if_neg (by omega), if_neg (by omega)] at hlen ⊢
 replace HR := Lib.hid HR
 replace HB1 := Lib.hid HB1
 replace HB2 := Lib.hid HB2
 have HBH := Lib.hid (behind_pt (B := B) (b := b) (m := m) (pa := pa) (ta := ta) (ba := ba) (pl := pl) (pc := pc) (tl := tl) (tc := tc) (bl := bl) (bc := bc) w.heap.size (w.heap.size + 1) (partsL m.name).length hpl)
 have HSP := fun (acc2 : Bytes) (w' : World) (h : St B b acc2 w w') (hInv : PtAt B b w.heap.size (w.heap.size + 1) m pa ta ba pl pc tl tc bl bc w') (hl : acc2.length + _ ≤ 140737488355328) => spread_any B b acc2 m.name _ _ _ _ hnm w' h.isb h.siz (h.env hE) hInv HBH.out hl
 unfold strV at HSP
 replace HSP := Lib.hid HSP
 have HN := Lib.hid hm.params
 unfold mtV
 obtain ⟨T, hT⟩ : ∃ T, spreadT m.name (fun i => m.params.getD i []) (partsL m.name).length = T := ⟨_, rfl⟩
 rw [hT] at hlen HSP ⊢
 have HLEN := Lib.hid hlen
 clear hI hE hm hr HX1 HX2 hz hT hlen
 go_enter Tryz.func40, Tryz.ntmps40
 go_wp2_with fail
 refine (HR.out _).mono ?_; rintro e w1 ⟨rfl, hb1⟩
 have HST1 := Lib.hid (HST0.out.go hb1)
 have hp1 := HB1.out.below hb1 HB1.out.lt
 have hp2 := HB2.out.below hb1 HB2.out.lt
 have d0 := hp1.c 0 _ rfl
 have c1 := hp2.c 0 _ rfl
 have HINV : Hid (PtAt B b w.heap.size (w.heap.size + 1) m pa ta ba pl pc tl tc bl bc w1) := Lib.hid ⟨hp1, hp2, isb_blk HST1.out.isb hp1 (by decide), isb_blk HST1.out.isb hp2 (by decide), HST1.out.rd HN.out⟩
 clear hb1 hp1 hp2
 go_wp2_with fail
 refine (HSP.out _ _ HST1.out HINV.out HLEN.out).mono ?_; rintro e w2 hW2
 obtain rfl := hW2.1
 have HST2 := Lib.hid (HST1.out.step hW2)
 clear hW2 c1 d0
 go_wp2_with fail
 go_end0
 exact HST2.out.done
theorem pattern_any (ha : Lx.arityL m.name = (m.params.length : Int)) (hI : Lib.IsBuilder OT U8 B b (Lib.byteCells acc) w) (hB : B ≤ w.heap.size) (hE : Env B w) (hm : MtAt (fun b => b < B) w m (.slice pa pl pc) (.slice ta tl tc) (.slice ba bl bc)) (hlen : acc.length + (patT m).length ≤ 140737488355328) :
  Calls Tryz.prog 40 #[.pointer (some ⟨b, 0, none⟩), mtV m (.slice pa pl pc) (.slice ta tl tc) (.slice ba bl bc)] w (Wr B b acc (patT m) w) := by
 have h0 : 0 ≤ Lx.arityL m.name := by rw [ha]; omega
 have hnm : m.name.length ≤ 1000000 := by have := (ar_cases h0).2.1; omega
 rcases rank_cases h0 with ⟨r, _⟩ | ⟨r, ha1⟩ | ⟨r, _, _, hpl⟩
 · exact pattern_name r hnm hI hB hE hm hlen
 · exact pattern_op r (by omega) hnm hI hB hE hm hlen
 · exact pattern_kw r (by omega) hnm hI hB hE hm hlen
end
end Tr
end Go.Proofs.YtbdgoimbddlcoaaGreatDoor
