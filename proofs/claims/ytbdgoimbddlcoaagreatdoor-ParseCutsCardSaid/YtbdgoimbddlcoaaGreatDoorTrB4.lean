/- Package tree, the walk: least, send, message, statements, node (printed by gen_trb4.py). -/
import Derived.Test.YtbdgoimbddlcoaaGreatDoorTrB3
import Derived.Deep.DeepCutAuto
set_option linter.unusedVariables false
namespace Go.Proofs.YtbdgoimbddlcoaaGreatDoor
open Go.RowKit
namespace Tr
open Bs Sm
/-- A node is written. -/
def NodeOk (B b : Nat) (x : Nd) : Prop := ∀ (acc : Bytes) (kv nv : Value) (w : World), Lib.IsBuilder OT U8 B b (Lib.byteCells acc) w → B ≤ w.heap.size → Env B w → Tree (fun b => b < B) w kv x.kids → Rd (fun b => b < B) strV w nv x.names →
 acc.length + (txt x).1.length ≤ 140737488355328 → Calls Tryz.prog 84 #[.pointer (some ⟨b, 0, none⟩), ndV x kv nv] w (Wr B b acc (txt x).1 w)
section
variable {B b : Nat} {acc : Bytes} {x : Nd} {kv nv : Value} {w : World}
theorem St.env {acc2 : Bytes} {w' : World} (h : St B b acc2 w w') (hE : Env B w) : Env B w' := hE.below h.bel
theorem St.tree {acc2 : Bytes} {w' : World} {v : Value} {l : List Nd} (h : St B b acc2 w w') (hk : Tree (fun b => b < B) w v l) : Tree (fun b => b < B) w' v l := hk.kp (Kp.lt h.bel)
theorem St.rd {acc2 : Bytes} {w' : World} {v : Value} {l : List Bytes} (h : St B b acc2 w w') (hk : Rd (fun b => b < B) strV w v l) : Rd (fun b => b < B) strV w' v l := hk.kp (Kp.lt h.bel)
set_option maxRecDepth 100000 in
set_option maxHeartbeats 3200000 in
theorem least_any (hN : NodeOk B b x) (hnm : x.name.length ≤ 1000000) (r : Int) (hI : Lib.IsBuilder OT U8 B b (Lib.byteCells acc) w) (hB : B ≤ w.heap.size) (hE : Env B w) (hk : Tree (fun b => b < B) w kv x.kids) (hn : Rd (fun b => b < B) strV w nv x.names) (hlen : acc.length + (leastT r x (txt x).1).length ≤ 140737488355328) :
  Calls Tryz.prog 168 #[.pointer (some ⟨b, 0, none⟩), ndV x kv nv, .int .i64 r] w (Wr B b acc (leastT r x (txt x).1) w) := by
 obtain ⟨ka, kc, rfl, hkc, hkm⟩ := hk.form
 obtain ⟨na, nc, rfl, hnc, hnm2⟩ := hn.form
 unfold maxLen at hkm hnm2
 have HX := Lib.hid (alloc_bel w (.cells #[.int .i64 x.kind, .string ⟨x.name.toArray⟩, .int .i64 x.num, .slice ka x.kids.length kc, .slice na x.names.length nc, .int .i64 x.at_] 79))
 have HBK := Lib.hid (Blk.made (T := 79) (cs := #[.int .i64 x.kind, .string ⟨x.name.toArray⟩, .int .i64 x.num, .slice ka x.kids.length kc, .slice na x.names.length nc, .int .i64 x.at_]) w)
 have HST0 := Lib.hid (St.start hI hB)
 have HE := Lib.hid hE
 have HKT := Lib.hid hk
 have HNT := Lib.hid hn
 have HR := fun w' => rankN_any x (.slice ka x.kids.length kc) (.slice na x.names.length nc) hnm w'
 have HN := Lib.hid hN
 unfold ndV at HR ⊢
 unfold leastT at hlen ⊢
 obtain ⟨rk, hrk⟩ : ∃ q, rankN x = q := ⟨_, rfl⟩
 rw [hrk] at HR hlen ⊢
 replace HR := Lib.hid HR
 clear hI hE hk hn hN hrk
 by_cases hlt : rk < r
 · rw [if_pos hlt] at hlen ⊢
   have hld : decide (rk < r) = true := decide_eq_true hlt
   simp only [List.length_cons, List.length_append, List.length_nil] at hlen
   clear hlt
   go_enter Tryz.func168, Tryz.ntmps168
   go_wp2_with fail
   refine (HR.out _).mono ?_; rintro e w1 ⟨rfl, hb1⟩
   have HST1 := Lib.hid ((HST0.out.go HX.out).go hb1)
   have hk1 := HBK.out.below hb1 HBK.out.lt
   have hkb := isb_blk HST1.out.isb hk1 (by decide)
   have HK1 := Lib.hid hk1
   clear hb1 hk1
   go_wp2_with fail
   refine (put1 [40] HST1.out.isb (by simp; omega) HST1.out.siz).mono ?_; rintro e w2 hW2
   obtain rfl := hW2.1
   have HST2 := Lib.hid (HST1.out.step hW2)
   have hk2 := hW2.2.2.2.blk HK1.out hkb (by decide)
   have c0 := hk2.c 0 _ rfl
   have c1 := hk2.c 1 _ rfl
   have c2 := hk2.c 2 _ rfl
   have c3 := hk2.c 3 _ rfl
   have c4 := hk2.c 4 _ rfl
   have c5 := hk2.c 5 _ rfl
   have HK2 := Lib.hid hk2
   have HNN := HN.out (acc ++ [40]) (.slice ka x.kids.length kc) (.slice na x.names.length nc) w2 HST2.out.isb HST2.out.siz (HST2.out.env HE.out) (HST2.out.tree HKT.out) (HST2.out.rd HNT.out) (by simp; omega)
   unfold ndV at HNN
   replace HNN := Lib.hid HNN
   clear hW2 hk2
   go_wp2_with fail
   refine HNN.out.mono ?_; rintro e w3 hW3
   obtain rfl := hW3.1
   have HST3 := Lib.hid (HST2.out.step hW3)
   clear hW3 c0 c1 c2 c3 c4 c5
   go_wp2_with fail
   refine (put1 [41] HST3.out.isb (by simp; omega) HST3.out.siz).mono ?_; rintro e w4 hW4
   obtain rfl := hW4.1
   have HST4 := Lib.hid (HST3.out.step hW4)
   clear hW4
   go_wp2_with fail
   go_end0
   exact HST4.out.done' (by simp)
 · rw [if_neg hlt] at hlen ⊢
   have hld : decide (rk < r) = false := decide_eq_false hlt
   clear hlt
   go_enter Tryz.func168, Tryz.ntmps168
   go_wp2_with fail
   refine (HR.out _).mono ?_; rintro e w1 ⟨rfl, hb1⟩
   have HST1 := Lib.hid ((HST0.out.go HX.out).go hb1)
   have hk1 := HBK.out.below hb1 HBK.out.lt
   have c0 := hk1.c 0 _ rfl
   have c1 := hk1.c 1 _ rfl
   have c2 := hk1.c 2 _ rfl
   have c3 := hk1.c 3 _ rfl
   have c4 := hk1.c 4 _ rfl
   have c5 := hk1.c 5 _ rfl
   have HNN := HN.out acc (.slice ka x.kids.length kc) (.slice na x.names.length nc) w1 HST1.out.isb HST1.out.siz (HST1.out.env HE.out) (HST1.out.tree HKT.out) (HST1.out.rd HNT.out) hlen
   unfold ndV at HNN
   replace HNN := Lib.hid HNN
   clear hb1 hk1
   go_wp2_with fail
   refine HNN.out.mono ?_; rintro e w3 hW3
   obtain rfl := hW3.1
   have HST3 := Lib.hid (HST1.out.step hW3)
   clear hW3 c0 c1 c2 c3 c4 c5
   go_wp2_with fail
   go_end0
   exact HST3.out.done
set_option maxRecDepth 100000 in
set_option maxHeartbeats 3200000 in
theorem message_name (hr : rankS x.name = 3) (hnm : x.name.length ≤ 1000000) (hI : Lib.IsBuilder OT U8 B b (Lib.byteCells acc) w) (hB : B ≤ w.heap.size) (hE : Env B w) (hk : Tree (fun b => b < B) w kv x.kids) (hn : Rd (fun b => b < B) strV w nv x.names) (hlen : acc.length + (msgT txt x).length ≤ 140737488355328) :
  Calls Tryz.prog 169 #[.pointer (some ⟨b, 0, none⟩), ndV x kv nv] w (Wr B b acc (msgT txt x) w) := by
 obtain ⟨ka, kc, rfl, hkc, hkm⟩ := hk.form
 obtain ⟨na, nc, rfl, hnc, hnm2⟩ := hn.form
 have HX1 := alloc_bel w (.cells #[.pointer (some ⟨b, 0, none⟩)] 132)
 have HX2 := alloc_bel (w.alloc (.cells #[.pointer (some ⟨b, 0, none⟩)] 132)) (.cells #[.int .i64 x.kind, .string ⟨x.name.toArray⟩, .int .i64 x.num, .slice ka x.kids.length kc, .slice na x.names.length nc, .int .i64 x.at_] 79)
 have HB1 := (Blk.made (T := 132) (cs := #[.pointer (some ⟨b, 0, none⟩)]) w).alloc (.cells #[.int .i64 x.kind, .string ⟨x.name.toArray⟩, .int .i64 x.num, .slice ka x.kids.length kc, .slice na x.names.length nc, .int .i64 x.at_] 79)
 have HB2 := Blk.made (T := 79) (cs := #[.int .i64 x.kind, .string ⟨x.name.toArray⟩, .int .i64 x.num, .slice ka x.kids.length kc, .slice na x.names.length nc, .int .i64 x.at_]) (w.alloc (.cells #[.pointer (some ⟨b, 0, none⟩)] 132))
 have hz : (w.alloc (.cells #[.pointer (some ⟨b, 0, none⟩)] 132)).heap.size = w.heap.size + 1 := by simp
 rw [hz] at HB2
 have HST0 := Lib.hid (((St.start hI hB).go HX1).go HX2)
 have HR := fun w' => rank_any x.name hnm w'
 rw [hr] at HR
 unfold strV at HR
 unfold msgT at hlen ⊢
 rw [if_pos hr] at hlen ⊢
 replace HR := Lib.hid HR
 replace HB1 := Lib.hid HB1
 replace HB2 := Lib.hid HB2
 unfold ndV
 clear hI hE hk hn hr HX1 HX2 hz
 go_enter Tryz.func169, Tryz.ntmps169
 go_wp2_with fail
 refine (HR.out _).mono ?_; rintro e w1 ⟨rfl, hb1⟩
 have HST1 := Lib.hid (HST0.out.go hb1)
 have d0 := (HB1.out.below hb1 HB1.out.lt).c 0 _ rfl
 have hk1 := HB2.out.below hb1 HB2.out.lt
 have c1 := hk1.c 1 _ rfl
 clear hb1 hk1
 go_wp2_with fail
 refine (put1 x.name HST1.out.isb hlen HST1.out.siz).mono ?_; rintro e w2 hW2
 obtain rfl := hW2.1
 have HST2 := Lib.hid (HST1.out.step hW2)
 clear hW2 c1 d0
 go_wp2_with fail
 go_end0
 exact HST2.out.done
set_option maxRecDepth 100000 in
set_option maxHeartbeats 3200000 in
theorem message_op (hr : rankS x.name = 2) (hnm : x.name.length ≤ 1000000) (hkl : x.kids.length = 2) (hN : NodeOk B b (kid x 1)) (hyn : (kid x 1).name.length ≤ 1000000) (hI : Lib.IsBuilder OT U8 B b (Lib.byteCells acc) w) (hB : B ≤ w.heap.size) (hE : Env B w) (hk : Tree (fun b => b < B) w kv x.kids) (hn : Rd (fun b => b < B) strV w nv x.names) (hlen : acc.length + (msgT txt x).length ≤ 140737488355328) :
  Calls Tryz.prog 169 #[.pointer (some ⟨b, 0, none⟩), ndV x kv nv] w (Wr B b acc (msgT txt x) w) := by
 obtain ⟨ka, kc, rfl, hkc, hkm⟩ := hk.form
 obtain ⟨na, nc, rfl, hnc, hnm2⟩ := hn.form
 have HX1 := alloc_bel w (.cells #[.pointer (some ⟨b, 0, none⟩)] 132)
 have HX2 := alloc_bel (w.alloc (.cells #[.pointer (some ⟨b, 0, none⟩)] 132)) (.cells #[.int .i64 x.kind, .string ⟨x.name.toArray⟩, .int .i64 x.num, .slice ka x.kids.length kc, .slice na x.names.length nc, .int .i64 x.at_] 79)
 have HB1 := (Blk.made (T := 132) (cs := #[.pointer (some ⟨b, 0, none⟩)]) w).alloc (.cells #[.int .i64 x.kind, .string ⟨x.name.toArray⟩, .int .i64 x.num, .slice ka x.kids.length kc, .slice na x.names.length nc, .int .i64 x.at_] 79)
 have HB2 := Blk.made (T := 79) (cs := #[.int .i64 x.kind, .string ⟨x.name.toArray⟩, .int .i64 x.num, .slice ka x.kids.length kc, .slice na x.names.length nc, .int .i64 x.at_]) (w.alloc (.cells #[.pointer (some ⟨b, 0, none⟩)] 132))
 have hz : (w.alloc (.cells #[.pointer (some ⟨b, 0, none⟩)] 132)).heap.size = w.heap.size + 1 := by simp
 rw [hz] at HB2
 have HST0 := Lib.hid (((St.start hI hB).go HX1).go HX2)
 have HR := fun w' => rank_any x.name hnm w'
 rw [hr] at HR
 unfold strV at HR
 unfold msgT at hlen ⊢
 rw [if_neg (by omega), if_pos hr] at hlen ⊢
 rw [hkl] at hk HB1 HB2 HST0 hkc
 obtain ⟨gb, off, y, ya, yc, za, zc, rfl, hy, hgb, hgB, hrow, hyk, hyn2⟩ := hk.nth 1 (by omega)
 have hkid : kid x 1 = y := by unfold kid; rw [List.getD_eq_getElem?_getD, hy]; rfl
 rw [hkid] at hN hyn hlen ⊢
 replace HR := Lib.hid HR
 replace HB1 := Lib.hid HB1
 replace HB2 := Lib.hid HB2
 have HL := fun (acc2 : Bytes) (w' : World) (h : St B b acc2 w w') (hl : acc2.length + (leastT 3 y (txt y).1).length ≤ 140737488355328) => least_any hN hyn 3 h.isb h.siz (h.env hE) (h.tree hyk) (h.rd hyn2) hl
 unfold ndV at HL ⊢
 rw [hkl]
 replace HL := Lib.hid HL
 have HROW := Lib.hid hrow
 obtain ⟨T, hT⟩ : ∃ T, leastT 3 y (txt y).1 = T := ⟨_, rfl⟩
 rw [hT] at HL hlen ⊢
 have HLEN := Lib.hid hlen
 clear hI hE hk hn hr HX1 HX2 hz hyk hyn2 hN hrow hkid hy hT hlen hyn
 go_enter Tryz.func169, Tryz.ntmps169
 go_wp2_with fail
 refine (HR.out _).mono ?_; rintro e w1 ⟨rfl, hb1⟩
 have HST1 := Lib.hid (HST0.out.go hb1)
 have hp1 := HB1.out.below hb1 HB1.out.lt
 have hk1 := HB2.out.below hb1 HB2.out.lt
 have d0 := hp1.c 0 _ rfl
 have c1 := hk1.c 1 _ rfl
 have HP1 := Lib.hid hp1
 have HK1 := Lib.hid hk1
 have hpb := isb_blk HST1.out.isb hp1 (by decide)
 have hkb := isb_blk HST1.out.isb hk1 (by decide)
 clear hb1 hk1 hp1
 go_upto_region 7 with fail
 refine (put2 x.name [32] HST1.out.isb (by have := HLEN.out; simp only [List.length_append] at this ⊢; omega) HST1.out.siz).mono ?_; rintro e w2 hW2
 obtain rfl := hW2.1
 have HST2 := Lib.hid (HST1.out.step hW2)
 have hp2 := hW2.2.2.2.blk HP1.out hpb (by decide)
 have hk2 := hW2.2.2.2.blk HK1.out hkb (by decide)
 clear hW2 c1 d0
 go_upto_region 7 with fail
 have hS : ∀ v, Below w2.heap.size w2 v → (v.cell? ⟨w.heap.size, 0, none⟩ = some (.pointer (some ⟨b, 0, none⟩)) ∧ v.cell? ⟨w.heap.size + 1, 3, none⟩ = some (.slice (some ⟨gb, off, none⟩) 2 kc) ∧ (v.cell? ⟨gb, off + 6, none⟩ = some (.int .i64 y.kind) ∧ v.cell? ⟨gb, off + 6 + 1, none⟩ = some (.string ⟨y.name.toArray⟩) ∧ v.cell? ⟨gb, off + 6 + 2, none⟩ = some (.int .i64 y.num) ∧ v.cell? ⟨gb, off + 6 + 3, none⟩ = some (.slice ya y.kids.length yc) ∧ v.cell? ⟨gb, off + 6 + 4, none⟩ = some (.slice za y.names.length zc) ∧ v.cell? ⟨gb, off + 6 + 5, none⟩ = some (.int .i64 y.at_))) := fun v hv => by
  have hbv := HST2.out.bel.trans (hv.mono HST2.out.siz)
  have hr := HROW.out.kp (w' := v) (fun i => hbv.cell (p := ⟨gb, i, none⟩) hgB)
  rw [Nat.one_mul] at hr
  exact ⟨(hp2.below hv hp2.lt).c 0 _ rfl, (hk2.below hv hk2.lt).c 3 _ rfl, hr⟩
 have HLL := Lib.hid (HL.out _ _ (HST2.out.go (Below.refl _ w2).drew) (by have := HLEN.out; simp only [List.length_append] at this ⊢; omega))
 have HST3 := Lib.hid (HST2.out.go (Below.refl _ w2).drew)
 clear hp2 hk2
 refine wp_region_noPanic ?_
 refine Hd.start (fun v => v.cell? ⟨w.heap.size, 0, none⟩ = some (.pointer (some ⟨b, 0, none⟩)) ∧ v.cell? ⟨w.heap.size + 1, 3, none⟩ = some (.slice (some ⟨gb, off, none⟩) 2 kc) ∧ (v.cell? ⟨gb, off + 6, none⟩ = some (.int .i64 y.kind) ∧ v.cell? ⟨gb, off + 6 + 1, none⟩ = some (.string ⟨y.name.toArray⟩) ∧ v.cell? ⟨gb, off + 6 + 2, none⟩ = some (.int .i64 y.num) ∧ v.cell? ⟨gb, off + 6 + 3, none⟩ = some (.slice ya y.kids.length yc) ∧ v.cell? ⟨gb, off + 6 + 4, none⟩ = some (.slice za y.names.length zc) ∧ v.cell? ⟨gb, off + 6 + 5, none⟩ = some (.int .i64 y.at_))) (by kernel_rfl) (hS _ (Below.refl _ w2).drew) (fun hH0 => ?_)
 refine Hd.tk 0 5 hH0 ?_
 refine Hd.tk 1 2 hH0 ?_
 refine Hd.tk 2 3 hH0 ?_
 refine Hd.tk 3 4 hH0 ?_
 refine Hd.tk 4 5 hH0 ?_
 refine Hd.la 5 (fun K hK => ?_)
 go_simp
 refine HLL.out.mono ?_; rintro e w4 hW4
 obtain rfl := hW4.1
 have HST4 := Lib.hid (HST3.out.step hW4)
 clear hW4
 go_wp2_with fail
 refine hK.out _ _ ?_
 clear hK K
 try simp only [Act.put, Hd.sa, Hd.sz, Hd.ss]
 simp only [NoPanic]
 clear hS hH0
 go_wp2_with fail
 go_end0
 exact HST4.out.done' (by simp)
def MsgOk (B b : Nat) (x : Nd) : Prop := ∀ (acc : Bytes) (kv nv : Value) (w : World), Lib.IsBuilder OT U8 B b (Lib.byteCells acc) w → B ≤ w.heap.size → Env B w → Tree (fun b => b < B) w kv x.kids → Rd (fun b => b < B) strV w nv x.names →
 acc.length + (msgT txt x).length ≤ 140737488355328 → Calls Tryz.prog 169 #[.pointer (some ⟨b, 0, none⟩), ndV x kv nv] w (Wr B b acc (msgT txt x) w)
set_option maxRecDepth 100000 in
set_option maxHeartbeats 3200000 in
theorem send_any (hnm : x.name.length ≤ 1000000) (hkl : 1 ≤ x.kids.length) (hN : NodeOk B b (kid x 0)) (hyn : (kid x 0).name.length ≤ 1000000) (hM : MsgOk B b x) (hI : Lib.IsBuilder OT U8 B b (Lib.byteCells acc) w) (hB : B ≤ w.heap.size) (hE : Env B w) (hk : Tree (fun b => b < B) w kv x.kids) (hn : Rd (fun b => b < B) strV w nv x.names) (hlen : acc.length + (sendT txt x).length ≤ 140737488355328) :
  Calls Tryz.prog 140 #[.pointer (some ⟨b, 0, none⟩), ndV x kv nv] w (Wr B b acc (sendT txt x) w) := by
 obtain ⟨ka, kc, rfl, hkc, hkm⟩ := hk.form
 obtain ⟨na, nc, rfl, hnc, hnm2⟩ := hn.form
 unfold maxLen at hkm hnm2
 have HX := Lib.hid (alloc_bel w (.cells #[.int .i64 x.kind, .string ⟨x.name.toArray⟩, .int .i64 x.num, .slice ka x.kids.length kc, .slice na x.names.length nc, .int .i64 x.at_] 79))
 have HBK := Lib.hid (Blk.made (T := 79) (cs := #[.int .i64 x.kind, .string ⟨x.name.toArray⟩, .int .i64 x.num, .slice ka x.kids.length kc, .slice na x.names.length nc, .int .i64 x.at_]) w)
 have HST0 := Lib.hid (St.start hI hB)
 have HE := Lib.hid hE
 have HKT := Lib.hid hk
 have HNT := Lib.hid hn
 have HR := fun w' => rank_any x.name hnm w'
 obtain ⟨gb, off, y, ya, yc, za, zc, rfl, hy, hgb, hgB, hrow, hyk, hyn2⟩ := hk.nth 0 hkl
 have hkid : kid x 0 = y := by unfold kid; rw [List.getD_eq_getElem?_getD, hy]; rfl
 have HL := fun (r : Int) (acc2 : Bytes) (w' : World) (h : St B b acc2 w w') (hl : acc2.length + (leastT r y (txt y).1).length ≤ 140737488355328) => least_any (hkid ▸ hN) (hkid ▸ hyn) r h.isb h.siz (h.env hE) (h.tree hyk) (h.rd hyn2) hl
 have HMM := fun (acc2 : Bytes) (w' : World) (h : St B b acc2 w w') (hl : acc2.length + (msgT txt x).length ≤ 140737488355328) => hM acc2 _ _ w' h.isb h.siz (h.env hE) (h.tree hk) (h.rd hn) hl
 unfold sendT at hlen ⊢
 rw [hkid] at hlen ⊢
 unfold ndV at HL HMM ⊢
 unfold strV at HR
 obtain ⟨rk, hrk⟩ : ∃ r, rankS x.name = r := ⟨_, rfl⟩
 obtain ⟨M, hMt⟩ : ∃ r, msgT txt x = r := ⟨_, rfl⟩
 obtain ⟨n, hnl⟩ : ∃ r, x.kids.length = r := ⟨_, rfl⟩
 rw [hrk] at HR hlen ⊢
 rw [hMt] at HMM hlen ⊢
 rw [hnl] at HMM HBK HX hkl hkc ⊢
 have hdp : decide ((0 : Int) < (n : Int)) = true := decide_eq_true (by omega)
 have HROW := Lib.hid hrow
 obtain ⟨r, hr⟩ : ∃ r : Int, (if rk = 3 then (3 : Int) else 2) = r := ⟨_, rfl⟩
 rw [hr] at hlen ⊢
 have HRr := Lib.hid hr
 replace HR := Lib.hid HR
 replace HL := Lib.hid HL
 replace HMM := Lib.hid HMM
 have HLEN := Lib.hid hlen
 clear hI hE hk hn hy hkid hrow hyk hyn2 hN hM hr hrk hMt hnl hyn hlen
 have hcase : (rk == 3) = true ∧ r = 3 ∨ (rk == 3) = false ∧ r = 2 := by
  by_cases h : rk = 3
  · exact .inl ⟨by rw [h]; rfl, by rw [← HRr.out, if_pos h]⟩
  · exact .inr ⟨beq_eq_false_iff_ne.2 h, by rw [← HRr.out, if_neg h]⟩
 rcases hcase with ⟨hrb, hr2⟩ | ⟨hrb, hr2⟩
 all_goals (
  subst hr2
  go_enter Tryz.func140, Tryz.ntmps140
  go_wp2_with fail
  refine (HR.out _).mono ?_; rintro e w1 ⟨rfl, hb1⟩
  have HST1 := Lib.hid ((HST0.out.go HX.out).go hb1)
  have hk1 := HBK.out.below hb1 HBK.out.lt
  have c3 := hk1.c 3 _ rfl
  have hkb := isb_blk HST1.out.isb hk1 (by decide)
  have HK1 := Lib.hid hk1
  obtain ⟨q0, q1, q2, q3, q4, q5⟩ := HROW.out.kp (w' := w1) (fun i => HST1.out.bel.cell (p := ⟨gb, i, none⟩) hgB)
  simp only [Nat.zero_mul, Nat.add_zero] at q0 q1 q2 q3 q4 q5
  clear hb1 hk1
  go_wp2_with fail
  refine (HL.out _ _ _ HST1.out (by have := HLEN.out; simp only [List.length_append] at this ⊢; omega)).mono ?_; rintro e w2 hW2
  obtain rfl := hW2.1
  have HST2 := Lib.hid (HST1.out.step hW2)
  have hk2 := hW2.2.2.2.blk HK1.out hkb (by decide)
  have HK2 := Lib.hid hk2
  clear hW2 hk2 c3 q0 q1 q2 q3 q4 q5
  go_wp2_with fail
  refine (put1 [32] HST2.out.isb (by have := HLEN.out; simp only [List.length_append, List.length_cons, List.length_nil] at this ⊢; omega) HST2.out.siz).mono ?_; rintro e w3 hW3
  obtain rfl := hW3.1
  have HST3 := Lib.hid (HST2.out.step hW3)
  have hk3 := hW3.2.2.2.blk HK2.out hkb (by decide)
  have c0 := hk3.c 0 _ rfl
  have c1 := hk3.c 1 _ rfl
  have c2 := hk3.c 2 _ rfl
  have c3 := hk3.c 3 _ rfl
  have c4 := hk3.c 4 _ rfl
  have c5 := hk3.c 5 _ rfl
  clear hW3 hk3
  go_wp2_with fail
  refine (HMM.out _ _ HST3.out (by have := HLEN.out; simp only [List.length_append, List.length_cons, List.length_nil] at this ⊢; omega)).mono ?_; rintro e w4 hW4
  obtain rfl := hW4.1
  have HST4 := Lib.hid (HST3.out.step hW4)
  clear hW4 c0 c1 c2 c3 c4 c5
  go_wp2_with fail
  go_end0
  exact HST4.out.done' (by simp))
end
end Tr
end Go.Proofs.YtbdgoimbddlcoaaGreatDoor
