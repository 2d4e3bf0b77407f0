/- Package tree, the walk: a message of Keywords, lists, cascades (printed by gen_trb7.py). -/
import Derived.Test.YtbdgoimbddlcoaaGreatDoorTrB6
set_option linter.unusedVariables false
namespace Go.Proofs.YtbdgoimbddlcoaaGreatDoor
open Go.RowKit
namespace Tr
open Bs Sm
section
variable {B b : Nat} {acc : Bytes} {x : Nd} {kv nv : Value} {w : World}
set_option maxRecDepth 100000 in
set_option maxHeartbeats 1600000 in
theorem message_kw (hr : rankS x.name = 1) (hnm : x.name.length ≤ 1000000) (hpl : (partsL x.name).length + 1 ≤ x.kids.length) (hkl : x.kids.length ≤ 1000000) (hN : ∀ y ∈ x.kids, NodeOk B b y ∧ y.name.length ≤ 1000000) (hI : Lib.IsBuilder OT U8 B b (Lib.byteCells acc) w) (hB : B ≤ w.heap.size) (hE : Env B w) (hk : Tree (fun b => b < B) w kv x.kids) (hn : Rd (fun b => b < B) strV w nv x.names) (hlen : acc.length + (msgT txt x).length ≤ 140737488355328) :
  Calls Tryz.prog 169 #[.pointer (some ⟨b, 0, none⟩), ndV x kv nv] w (Wr B b acc (msgT txt x) w) := by
 obtain ⟨ka, kc, rfl, hkc, hkm⟩ := hk.form
 obtain ⟨na, nc, rfl, hnc, hnm2⟩ := hn.form
 have HX1 := alloc_bel w (.cells #[.pointer (some ⟨b, 0, none⟩)] 132)
 have HX2 := alloc_bel (w.alloc (.cells #[.pointer (some ⟨b, 0, none⟩)] 132)) (.cells #[.int .i64 x.kind, .string ⟨x.name.toArray⟩, .int .i64 x.num, .slice ka x.kids.length kc, .slice na x.names.length nc, .int .i64 x.at_] 79)
 have HB1 := (Blk.made (T := 132) (cs := #[.pointer (some ⟨b, 0, none⟩)]) w).alloc (.cells #[.int .i64 x.kind, .string ⟨x.name.toArray⟩, .int .i64 x.num, .slice ka x.kids.length kc, .slice na x.names.length nc, .int .i64 x.at_] 79)
 have HB2 := Blk.made (T := 79) (cs := #[.int .i64 x.kind, .string ⟨x.name.toArray⟩, .int .i64 x.num, .slice ka x.kids.length kc, .slice na x.names.length nc, .int .i64 x.at_]) (w.alloc (.cells #[.pointer (some ⟨b, 0, none⟩)] 132))
 have hz : (w.alloc (.cells #[.pointer (some ⟨b, 0, none⟩)] 132)).heap.size = w.heap.size + 1 := by simp
 rw [hz] at HB2
 have HST0 := Lib.hid (((St.start hI hB).go HX1).go HX2)
 have HR := fun w' => rank_any x.name hnm w'
 rw [hr] at HR
 unfold strV at HR
 unfold msgT at hlen ⊢
 rw [if_neg (by omega), if_neg (by omega)] at hlen ⊢
 replace HR := Lib.hid HR
 replace HB1 := Lib.hid HB1
 replace HB2 := Lib.hid HB2
 have HBH := Lib.hid (behind_kw (B := B) (b := b) w.heap.size (w.heap.size + 1) ka na kc nc (partsL x.name).length hpl hkl hN)
 have HSP := fun (acc2 : Bytes) (w' : World) (h : St B b acc2 w w') (hInv : KwAt B b w.heap.size (w.heap.size + 1) x ka na kc nc w') (hl : acc2.length + _ ≤ 140737488355328) => spread_any B b acc2 x.name _ _ _ _ hnm w' h.isb h.siz (h.env hE) hInv HBH.out hl
 unfold strV at HSP
 replace HSP := Lib.hid HSP
 have HE := Lib.hid hE
 have HK := Lib.hid hk
 unfold ndV
 obtain ⟨T, hT⟩ : ∃ T, spreadT x.name (fun i => leastT 2 (kid x (i + 1)) (txt (kid x (i + 1))).1) (partsL x.name).length = T := ⟨_, rfl⟩
 rw [hT] at hlen HSP ⊢
 have HLEN := Lib.hid hlen
 clear hI hE hk hn hr HX1 HX2 hz hN hT hlen
 go_enter Tryz.func169, Tryz.ntmps169
 go_wp2_with fail
 refine (HR.out _).mono ?_; rintro e w1 ⟨rfl, hb1⟩
 have HST1 := Lib.hid (HST0.out.go hb1)
 have hp1 := HB1.out.below hb1 HB1.out.lt
 have hp2 := HB2.out.below hb1 HB2.out.lt
 have d0 := hp1.c 0 _ rfl
 have c1 := hp2.c 1 _ rfl
 have HINV : Hid (KwAt B b w.heap.size (w.heap.size + 1) x ka na kc nc w1) := Lib.hid ⟨hp1, hp2, isb_blk HST1.out.isb hp1 (by decide), isb_blk HST1.out.isb hp2 (by decide), HST1.out.env HE.out, HST1.out.tree HK.out⟩
 clear hb1 hp1 hp2
 go_wp2_with fail
 refine (HSP.out _ _ HST1.out HINV.out HLEN.out).mono ?_; rintro e w2 hW2
 obtain rfl := hW2.1
 have HST2 := Lib.hid (HST1.out.step hW2)
 clear hW2 c1 d0
 go_wp2_with fail
 go_end0
 exact HST2.out.done
/-- A literal array is written. -/
def ListOk (B b : Nat) (x : Nd) : Prop := ∀ (op acc : Bytes) (kv nv : Value) (w : World), Lib.IsBuilder OT U8 B b (Lib.byteCells acc) w → B ≤ w.heap.size → Env B w → Tree (fun b => b < B) w kv x.kids → Rd (fun b => b < B) strV w nv x.names →
 acc.length + (op ++ (listT txt x ++ [41])).length ≤ 140737488355328 → Calls Tryz.prog 139 #[.pointer (some ⟨b, 0, none⟩), .string ⟨op.toArray⟩, ndV x kv nv] w (Wr B b acc (op ++ (listT txt x ++ [41])) w)
set_option maxRecDepth 100000 in
set_option maxHeartbeats 3200000 in
theorem list_step (hN : ∀ y ∈ x.kids, NodeOk B b y ∧ (y.kind = 4 → ListOk B b y)) : ListOk B b x := by
 intro op acc kv nv w hI hB hE hk hn hlen
 obtain ⟨xa, xc, rfl, hkc, hkm⟩ := hk.form
 obtain ⟨za, zc, rfl, hnc, hnm2⟩ := hn.form
 unfold maxLen at hkm hnm2
 obtain ⟨n, hnn⟩ : ∃ n, x.kids.length = n := ⟨_, rfl⟩
 obtain ⟨H, hH⟩ : ∃ H : Nat → Bytes, H = fun i => elemT txt (kid x i) := ⟨_, rfl⟩
 unfold listT at hlen ⊢
 rw [← hH, hnn] at hlen ⊢
 unfold ndV
 rw [hnn] at hk hkc
 have hHk : ∀ k y, x.kids[k]? = some y → H k = elemT txt y := fun k y hy => by rw [hH]; show elemT txt (kid x k) = _; unfold kid; rw [List.getD_eq_getElem?_getD, hy]; rfl
 have HX0 := Lib.hid (alloc_bel w (.cells #[.int .i64 x.kind, .string ⟨x.name.toArray⟩, .int .i64 x.num, .slice xa n xc, .slice za x.names.length zc, .int .i64 x.at_] 79))
 have HBK0 := Lib.hid (Blk.made (T := 79) (cs := #[.int .i64 x.kind, .string ⟨x.name.toArray⟩, .int .i64 x.num, .slice xa n xc, .slice za x.names.length zc, .int .i64 x.at_]) w)
 have HH := Lib.hid hHk
 have HST := Lib.hid (St.start hI hB)
 have HE := Lib.hid hE
 have HK := Lib.hid hk
 have HN := Lib.hid hN
 have HLEN := Lib.hid hlen
 clear hI hE hk hn hN hlen hH hHk hnn
 go_enter Tryz.func139, Tryz.ntmps139
 go_wp2_with fail
 have HST1 := Lib.hid (HST.out.go HX0.out)
 refine (put1k _ op HST1.out.isb (by have := HLEN.out; simp only [List.length_append] at this; omega) HST1.out.siz (by simp)).mono ?_; rintro e w1 hW1
 obtain rfl := hW1.1
 have HST2 : Hid (St B b (acc ++ (op ++ joinF [32] H 0)) w w1) := Lib.hid (by
  have h := HST1.out.step hW1
  rw [joinF_zero]; simpa using h)
 have hkb := isb_blk HST1.out.isb HBK0.out (by decide)
 have hk1 := hW1.2.2.2.blk HBK0.out hkb (by decide)
 have c3 := hk1.c 3 _ rfl
 clear hW1 hk1 hkb
 go_wp2_with fail
 clear c3
 go_loopw [15, 6, 7, 28, 35] (fun y _ _ _ _ wr => ∃ k : Nat, y = .int .i64 (k : Int) ∧ k ≤ n ∧ Hid (St B b (acc ++ (op ++ joinF [32] H k)) w wr)) (fun y _ _ _ _ _ => n - (intOf y).toNat)
 case atStart => exact ⟨0, rfl, Nat.zero_le _, HST2⟩
 case round =>
  obtain ⟨k, rfl, hk, hst⟩ := hrel
  by_cases hkn : k < n
  · have hdec : decide ((k : Int) < (n : Int)) = true := by simpa using hkn
    have hkw : IntKind.i64.wrap ((k : Int) + 1) = (k : Int) + 1 := IntWalk.i64_in _ (by omega)
    obtain ⟨gb, off, y, ka, kc, na, nc, rfl, hy, hgb, hgB, ⟨c0, c1, c2, c3, c4, c5⟩, hyk, hyn⟩ := (hst.out.tree HK.out).nth k hkn
    have HX := Lib.hid (alloc_bel wr (.cells #[.int .i64 y.kind, .string ⟨y.name.toArray⟩, .int .i64 y.num, .slice ka y.kids.length kc, .slice na y.names.length nc, .int .i64 y.at_] 79))
    have HBK := Lib.hid (Blk.made (T := 79) (cs := #[.int .i64 y.kind, .string ⟨y.name.toArray⟩, .int .i64 y.num, .slice ka y.kids.length kc, .slice na y.names.length nc, .int .i64 y.at_]) wr)
    have hstep : joinF [32] H (k + 1) = joinF [32] H k ++ ((if k = 0 then [] else [32]) ++ elemT txt y) := by rw [joinF_succ, HH.out k y hy]
    have hle : (joinF [32] H (k + 1)).length ≤ (joinF [32] H n).length := joinF_le _ _ (by omega)
    rw [hstep] at hle
    have hL := HLEN.out
    simp only [List.length_append, List.length_cons, List.length_nil] at hL
    obtain ⟨hNy, hLy⟩ := HN.out y (List.mem_of_getElem? hy)
    have HNY := fun (acc2 : Bytes) (w' : World) (h : St B b acc2 w w') (hw : Below B wr w') (hl : acc2.length + (txt y).1.length ≤ 140737488355328) => hNy acc2 _ _ w' h.isb h.siz (h.env HE.out) (hyk.kp (Kp.lt hw)) (hyn.kp (Kp.lt hw)) hl
    have HLY := fun (h4 : y.kind = 4) (acc2 : Bytes) (w' : World) (h : St B b acc2 w w') (hw : Below B wr w') (hl : acc2.length + ([40] ++ ((txt y).2 ++ [41])).length ≤ 140737488355328) => (show Calls _ _ _ w' (Wr B b acc2 ([40] ++ ((txt y).2 ++ [41])) w') from (by
     have e2 : (txt y).2 = listT txt y := by rw [txt_eq]; simp [nodeT, h4]
     rw [e2] at hl ⊢
     exact hLy h4 [40] acc2 _ _ w' h.isb h.siz (h.env HE.out) (hyk.kp (Kp.lt hw)) (hyn.kp (Kp.lt hw)) hl))
    have HPL := fun w' => plain_any y.name w'
    have HEL : Hid (elemT txt y = (if y.kind = 4 then [40] ++ ((txt y).2 ++ [41]) else if y.kind = 3 ∧ plainS y.name = true then y.name else (txt y).1)) := Lib.hid rfl
    unfold ndV at HNY HLY
    unfold strV at HPL
    obtain ⟨q, hq⟩ : ∃ q, plainS y.name = q := ⟨_, rfl⟩
    obtain ⟨K, hK⟩ : ∃ q, y.kind = q := ⟨_, rfl⟩
    rw [hq] at HPL HEL
    rw [hK] at HNY HLY HEL c0
    simp only [hK] at HX HBK
    replace HNY := Lib.hid HNY
    replace HLY := Lib.hid HLY
    replace HPL := Lib.hid HPL
    have HSTEP := Lib.hid hstep
    clear hy hstep hNy hLy hyk hyn hq hK
    by_cases hk0 : k = 0
    · skip
      have hk1 : decide (0 < k) = false := decide_eq_false (by omega)
      rw [if_pos hk0] at hle
      have HK0 := Lib.hid hk0
      clear hk0
      by_cases hk4 : K = 4
      · have b4 : (K == 4) = true := by rw [hk4]; rfl
        rw [if_pos hk4] at HEL
        have HK4 := Lib.hid hk4
        clear hk4
        have hel := HEL.out
        rw [hel] at hle
        simp only [List.length_append, List.length_cons, List.length_nil] at hle
        replace HSTEP := Lib.hid (hel ▸ HSTEP.out)
        clear hel
        have HST3 := Lib.hid (hst.out.go HX.out)
        have HK3 := HBK
        have HBE := Lib.hid (HX.out.mono hst.out.siz)
        have d0 := HK3.out.c 0 _ rfl
        have d1 := HK3.out.c 1 _ rfl
        have d2 := HK3.out.c 2 _ rfl
        have d3 := HK3.out.c 3 _ rfl
        have d4 := HK3.out.c 4 _ rfl
        have d5 := HK3.out.c 5 _ rfl
        go_wp2_with fail
        refine (HLY.out HK4.out _ _ HST3.out HBE.out (by simp only [List.length_append, List.length_cons, List.length_nil]; omega)).mono ?_; rintro e w9 hW9
        obtain rfl := hW9.1
        have HST9 : Hid (St B b (acc ++ (op ++ joinF [32] H (k + 1))) w w9) := Lib.hid (by
         have h := HST3.out.step hW9
         rw [HSTEP.out]
         simpa [HK0.out, List.append_assoc] using h)
        clear hW9 d0 d1 d2 d3 d4 d5
        go_wp2_with fail
        exact ⟨⟨k + 1, by simp, by omega, HST9⟩, by simp only [intOf]; omega⟩
      · have b4 : (K == 4) = false := beq_eq_false_iff_ne.2 hk4
        rw [if_neg hk4] at HEL
        by_cases hk3 : K = 3
        · have b3 : (K == 3) = true := by rw [hk3]; rfl
          have HK3_ := Lib.hid hk3
          clear hk3
          cases q with
          | true =>
           rw [if_pos ⟨HK3_.out, rfl⟩] at HEL
           have hel := HEL.out
           rw [hel] at hle
           simp only [List.length_append, List.length_nil] at hle
           replace HSTEP := Lib.hid (hel ▸ HSTEP.out)
           clear hel
           have HST3 := Lib.hid (hst.out.go HX.out)
           have HK3 := HBK
           have HBE := Lib.hid (HX.out.mono hst.out.siz)
           have d0 := HK3.out.c 0 _ rfl
           have d1 := HK3.out.c 1 _ rfl
           have d2 := HK3.out.c 2 _ rfl
           have d3 := HK3.out.c 3 _ rfl
           have d4 := HK3.out.c 4 _ rfl
           have d5 := HK3.out.c 5 _ rfl
           go_wp2_with fail
           refine (HPL.out _).mono ?_; rintro e w8 ⟨rfl, hb8⟩
           have HST4 := Lib.hid (HST3.out.go hb8)
           have hk8 := HK3.out.below hb8 HK3.out.lt
           clear d0 d1 d2 d3 d4 d5
           have d0 := hk8.c 0 _ rfl
           have d1 := hk8.c 1 _ rfl
           have d2 := hk8.c 2 _ rfl
           have d3 := hk8.c 3 _ rfl
           have d4 := hk8.c 4 _ rfl
           have d5 := hk8.c 5 _ rfl
           clear hb8 hk8
           go_wp2_with fail
           refine (put1 y.name HST4.out.isb (by simp only [List.length_append, List.length_cons, List.length_nil]; omega) HST4.out.siz).mono ?_; rintro e w9 hW9
           obtain rfl := hW9.1
           have HST9 : Hid (St B b (acc ++ (op ++ joinF [32] H (k + 1))) w w9) := Lib.hid (by
            have h := HST4.out.step hW9
            rw [HSTEP.out]
            simpa [HK0.out, List.append_assoc] using h)
           clear hW9 d0 d1 d2 d3 d4 d5
           go_wp2_with fail
           exact ⟨⟨k + 1, by simp, by omega, HST9⟩, by simp only [intOf]; omega⟩
          | false =>
           rw [if_neg (fun h => by cases h.2)] at HEL
           have hel := HEL.out
           rw [hel] at hle
           simp only [List.length_append, List.length_nil] at hle
           replace HSTEP := Lib.hid (hel ▸ HSTEP.out)
           clear hel
           have HST3 := Lib.hid (hst.out.go HX.out)
           have HK3 := HBK
           have HBE := Lib.hid (HX.out.mono hst.out.siz)
           have d0 := HK3.out.c 0 _ rfl
           have d1 := HK3.out.c 1 _ rfl
           have d2 := HK3.out.c 2 _ rfl
           have d3 := HK3.out.c 3 _ rfl
           have d4 := HK3.out.c 4 _ rfl
           have d5 := HK3.out.c 5 _ rfl
           go_wp2_with fail
           refine (HPL.out _).mono ?_; rintro e w8 ⟨rfl, hb8⟩
           have HST4 := Lib.hid (HST3.out.go hb8)
           have HBE4 := Lib.hid (HBE.out.trans (hb8.mono HST3.out.siz))
           have hk8 := HK3.out.below hb8 HK3.out.lt
           clear d0 d1 d2 d3 d4 d5
           have d0 := hk8.c 0 _ rfl
           have d1 := hk8.c 1 _ rfl
           have d2 := hk8.c 2 _ rfl
           have d3 := hk8.c 3 _ rfl
           have d4 := hk8.c 4 _ rfl
           have d5 := hk8.c 5 _ rfl
           clear hb8 hk8
           go_wp2_with fail
           refine (HNY.out _ _ HST4.out HBE4.out (by simp only [List.length_append, List.length_cons, List.length_nil]; omega)).mono ?_; rintro e w9 hW9
           obtain rfl := hW9.1
           have HST9 : Hid (St B b (acc ++ (op ++ joinF [32] H (k + 1))) w w9) := Lib.hid (by
            have h := HST4.out.step hW9
            rw [HSTEP.out]
            simpa [HK0.out, List.append_assoc] using h)
           clear hW9 d0 d1 d2 d3 d4 d5
           go_wp2_with fail
           exact ⟨⟨k + 1, by simp, by omega, HST9⟩, by simp only [intOf]; omega⟩
        · have b3 : (K == 3) = false := beq_eq_false_iff_ne.2 hk3
          rw [if_neg (fun h => hk3 h.1)] at HEL
          have hel := HEL.out
          rw [hel] at hle
          simp only [List.length_append, List.length_nil] at hle
          replace HSTEP := Lib.hid (hel ▸ HSTEP.out)
          clear hel
          have HST3 := Lib.hid (hst.out.go HX.out)
          have HK3 := HBK
          have HBE := Lib.hid (HX.out.mono hst.out.siz)
          have d0 := HK3.out.c 0 _ rfl
          have d1 := HK3.out.c 1 _ rfl
          have d2 := HK3.out.c 2 _ rfl
          have d3 := HK3.out.c 3 _ rfl
          have d4 := HK3.out.c 4 _ rfl
          have d5 := HK3.out.c 5 _ rfl
          go_wp2_with fail
          refine (HNY.out _ _ HST3.out HBE.out (by simp only [List.length_append, List.length_cons, List.length_nil]; omega)).mono ?_; rintro e w9 hW9
          obtain rfl := hW9.1
          have HST9 : Hid (St B b (acc ++ (op ++ joinF [32] H (k + 1))) w w9) := Lib.hid (by
           have h := HST3.out.step hW9
           rw [HSTEP.out]
           simpa [HK0.out, List.append_assoc] using h)
          clear hW9 d0 d1 d2 d3 d4 d5
          go_wp2_with fail
          exact ⟨⟨k + 1, by simp, by omega, HST9⟩, by simp only [intOf]; omega⟩
    · skip
      have hk1 : decide (0 < k) = true := decide_eq_true (by omega)
      rw [if_neg hk0] at hle
      have HK0 := Lib.hid hk0
      by_cases hk4 : K = 4
      · have b4 : (K == 4) = true := by rw [hk4]; rfl
        rw [if_pos hk4] at HEL
        have HK4 := Lib.hid hk4
        clear hk4
        have hel := HEL.out
        rw [hel] at hle
        simp only [List.length_append, List.length_cons, List.length_nil] at hle
        replace HSTEP := Lib.hid (hel ▸ HSTEP.out)
        clear hel
        go_wp2_with fail
        have HST1 := Lib.hid (hst.out.go HX.out)
        refine (put1k _ [32] HST1.out.isb (by simp only [List.length_append, List.length_cons, List.length_nil]; omega) HST1.out.siz (by simp)).mono ?_; rintro e w3 hW3
        obtain rfl := hW3.1
        have HST3 := Lib.hid (HST1.out.step hW3)
        have hkb := isb_blk HST1.out.isb HBK.out (by decide)
        have HK3 := Lib.hid (hW3.2.2.2.blk HBK.out hkb (by decide))
        have HBE := Lib.hid ((HX.out.mono hst.out.siz).trans hW3.2.2.1)
        clear hW3 c0 c1 c2 c3 c4 c5
        have d0 := HK3.out.c 0 _ rfl
        have d1 := HK3.out.c 1 _ rfl
        have d2 := HK3.out.c 2 _ rfl
        have d3 := HK3.out.c 3 _ rfl
        have d4 := HK3.out.c 4 _ rfl
        have d5 := HK3.out.c 5 _ rfl
        go_wp2_with fail
        refine (HLY.out HK4.out _ _ HST3.out HBE.out (by simp only [List.length_append, List.length_cons, List.length_nil]; omega)).mono ?_; rintro e w9 hW9
        obtain rfl := hW9.1
        have HST9 : Hid (St B b (acc ++ (op ++ joinF [32] H (k + 1))) w w9) := Lib.hid (by
         have h := HST3.out.step hW9
         rw [HSTEP.out]
         simpa [HK0.out, List.append_assoc] using h)
        clear hW9 d0 d1 d2 d3 d4 d5
        go_wp2_with fail
        exact ⟨⟨k + 1, by simp, by omega, HST9⟩, by simp only [intOf]; omega⟩
      · have b4 : (K == 4) = false := beq_eq_false_iff_ne.2 hk4
        rw [if_neg hk4] at HEL
        by_cases hk3 : K = 3
        · have b3 : (K == 3) = true := by rw [hk3]; rfl
          have HK3_ := Lib.hid hk3
          clear hk3
          cases q with
          | true =>
           rw [if_pos ⟨HK3_.out, rfl⟩] at HEL
           have hel := HEL.out
           rw [hel] at hle
           simp only [List.length_append, List.length_cons, List.length_nil] at hle
           replace HSTEP := Lib.hid (hel ▸ HSTEP.out)
           clear hel
           go_wp2_with fail
           have HST1 := Lib.hid (hst.out.go HX.out)
           refine (put1k _ [32] HST1.out.isb (by simp only [List.length_append, List.length_cons, List.length_nil]; omega) HST1.out.siz (by simp)).mono ?_; rintro e w3 hW3
           obtain rfl := hW3.1
           have HST3 := Lib.hid (HST1.out.step hW3)
           have hkb := isb_blk HST1.out.isb HBK.out (by decide)
           have HK3 := Lib.hid (hW3.2.2.2.blk HBK.out hkb (by decide))
           have HBE := Lib.hid ((HX.out.mono hst.out.siz).trans hW3.2.2.1)
           clear hW3 c0 c1 c2 c3 c4 c5
           have d0 := HK3.out.c 0 _ rfl
           have d1 := HK3.out.c 1 _ rfl
           have d2 := HK3.out.c 2 _ rfl
           have d3 := HK3.out.c 3 _ rfl
           have d4 := HK3.out.c 4 _ rfl
           have d5 := HK3.out.c 5 _ rfl
           go_wp2_with fail
           refine (HPL.out _).mono ?_; rintro e w8 ⟨rfl, hb8⟩
           have HST4 := Lib.hid (HST3.out.go hb8)
           have hk8 := HK3.out.below hb8 HK3.out.lt
           clear d0 d1 d2 d3 d4 d5
           have d0 := hk8.c 0 _ rfl
           have d1 := hk8.c 1 _ rfl
           have d2 := hk8.c 2 _ rfl
           have d3 := hk8.c 3 _ rfl
           have d4 := hk8.c 4 _ rfl
           have d5 := hk8.c 5 _ rfl
           clear hb8 hk8
           go_wp2_with fail
           refine (put1 y.name HST4.out.isb (by simp only [List.length_append, List.length_cons, List.length_nil]; omega) HST4.out.siz).mono ?_; rintro e w9 hW9
           obtain rfl := hW9.1
           have HST9 : Hid (St B b (acc ++ (op ++ joinF [32] H (k + 1))) w w9) := Lib.hid (by
            have h := HST4.out.step hW9
            rw [HSTEP.out]
            simpa [HK0.out, List.append_assoc] using h)
           clear hW9 d0 d1 d2 d3 d4 d5
           go_wp2_with fail
           exact ⟨⟨k + 1, by simp, by omega, HST9⟩, by simp only [intOf]; omega⟩
          | false =>
           rw [if_neg (fun h => by cases h.2)] at HEL
           have hel := HEL.out
           rw [hel] at hle
           simp only [List.length_append, List.length_cons, List.length_nil] at hle
           replace HSTEP := Lib.hid (hel ▸ HSTEP.out)
           clear hel
           go_wp2_with fail
           have HST1 := Lib.hid (hst.out.go HX.out)
           refine (put1k _ [32] HST1.out.isb (by simp only [List.length_append, List.length_cons, List.length_nil]; omega) HST1.out.siz (by simp)).mono ?_; rintro e w3 hW3
           obtain rfl := hW3.1
           have HST3 := Lib.hid (HST1.out.step hW3)
           have hkb := isb_blk HST1.out.isb HBK.out (by decide)
           have HK3 := Lib.hid (hW3.2.2.2.blk HBK.out hkb (by decide))
           have HBE := Lib.hid ((HX.out.mono hst.out.siz).trans hW3.2.2.1)
           clear hW3 c0 c1 c2 c3 c4 c5
           have d0 := HK3.out.c 0 _ rfl
           have d1 := HK3.out.c 1 _ rfl
           have d2 := HK3.out.c 2 _ rfl
           have d3 := HK3.out.c 3 _ rfl
           have d4 := HK3.out.c 4 _ rfl
           have d5 := HK3.out.c 5 _ rfl
           go_wp2_with fail
           refine (HPL.out _).mono ?_; rintro e w8 ⟨rfl, hb8⟩
           have HST4 := Lib.hid (HST3.out.go hb8)
           have HBE4 := Lib.hid (HBE.out.trans (hb8.mono HST3.out.siz))
           have hk8 := HK3.out.below hb8 HK3.out.lt
           clear d0 d1 d2 d3 d4 d5
           have d0 := hk8.c 0 _ rfl
           have d1 := hk8.c 1 _ rfl
           have d2 := hk8.c 2 _ rfl
           have d3 := hk8.c 3 _ rfl
           have d4 := hk8.c 4 _ rfl
           have d5 := hk8.c 5 _ rfl
           clear hb8 hk8
           go_wp2_with fail
           refine (HNY.out _ _ HST4.out HBE4.out (by simp only [List.length_append, List.length_cons, List.length_nil]; omega)).mono ?_; rintro e w9 hW9
           obtain rfl := hW9.1
           have HST9 : Hid (St B b (acc ++ (op ++ joinF [32] H (k + 1))) w w9) := Lib.hid (by
            have h := HST4.out.step hW9
            rw [HSTEP.out]
            simpa [HK0.out, List.append_assoc] using h)
           clear hW9 d0 d1 d2 d3 d4 d5
           go_wp2_with fail
           exact ⟨⟨k + 1, by simp, by omega, HST9⟩, by simp only [intOf]; omega⟩
        · have b3 : (K == 3) = false := beq_eq_false_iff_ne.2 hk3
          rw [if_neg (fun h => hk3 h.1)] at HEL
          have hel := HEL.out
          rw [hel] at hle
          simp only [List.length_append, List.length_cons, List.length_nil] at hle
          replace HSTEP := Lib.hid (hel ▸ HSTEP.out)
          clear hel
          go_wp2_with fail
          have HST1 := Lib.hid (hst.out.go HX.out)
          refine (put1k _ [32] HST1.out.isb (by simp only [List.length_append, List.length_cons, List.length_nil]; omega) HST1.out.siz (by simp)).mono ?_; rintro e w3 hW3
          obtain rfl := hW3.1
          have HST3 := Lib.hid (HST1.out.step hW3)
          have hkb := isb_blk HST1.out.isb HBK.out (by decide)
          have HK3 := Lib.hid (hW3.2.2.2.blk HBK.out hkb (by decide))
          have HBE := Lib.hid ((HX.out.mono hst.out.siz).trans hW3.2.2.1)
          clear hW3 c0 c1 c2 c3 c4 c5
          have d0 := HK3.out.c 0 _ rfl
          have d1 := HK3.out.c 1 _ rfl
          have d2 := HK3.out.c 2 _ rfl
          have d3 := HK3.out.c 3 _ rfl
          have d4 := HK3.out.c 4 _ rfl
          have d5 := HK3.out.c 5 _ rfl
          go_wp2_with fail
          refine (HNY.out _ _ HST3.out HBE.out (by simp only [List.length_append, List.length_cons, List.length_nil]; omega)).mono ?_; rintro e w9 hW9
          obtain rfl := hW9.1
          have HST9 : Hid (St B b (acc ++ (op ++ joinF [32] H (k + 1))) w w9) := Lib.hid (by
           have h := HST3.out.step hW9
           rw [HSTEP.out]
           simpa [HK0.out, List.append_assoc] using h)
          clear hW9 d0 d1 d2 d3 d4 d5
          go_wp2_with fail
          exact ⟨⟨k + 1, by simp, by omega, HST9⟩, by simp only [intOf]; omega⟩
  · obtain rfl : k = n := by omega
    have hdec : decide ((k : Int) < (k : Int)) = false := by simp
    go_wp2_with fail
    refine (put1 [41] hst.out.isb (by have := HLEN.out; simp only [List.length_append] at this ⊢; omega) hst.out.siz).mono ?_; rintro e w9 hW9
    obtain rfl := hW9.1
    have HST9 := Lib.hid (hst.out.step hW9)
    clear hW9
    go_wp2_with fail
    go_end0
    exact HST9.out.done' (by simp)
end
end Tr
end Go.Proofs.YtbdgoimbddlcoaaGreatDoor
