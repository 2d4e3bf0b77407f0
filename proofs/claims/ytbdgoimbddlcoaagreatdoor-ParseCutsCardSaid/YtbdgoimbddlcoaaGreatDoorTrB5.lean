/- Package tree, the walk: String; node, of some kinds; statements (printed by gen_trb5.py, hdx.py). -/
import Derived.Test.YtbdgoimbddlcoaaGreatDoorTrB4
set_option linter.unusedVariables false
namespace Go.Proofs.YtbdgoimbddlcoaaGreatDoor
open Go.RowKit
namespace Tr
open Bs Sm
set_option maxHeartbeats 2000000 in
set_option maxRecDepth 100000 in
theorem string_any {T : Nat} (B b : Nat) (l : Bytes) (w : World) (h : Lib.IsBuilder T U8 B b (Lib.byteCells l) w) (h0 : l ≠ []) :
  Calls Tryz.prog 45 #[.pointer (some ⟨b, 0, none⟩)] w fun e w' => e = .returned (.string ⟨l.toArray⟩) ∧ Below B w w' := by
 obtain ⟨p, hB, v, hbk, hown, hne⟩ : ∃ p, Lib.BuilderAt T U8 B b p (Lib.byteCells l) w := h.elim (fun x => ⟨_, x⟩) (fun x => ⟨_, x⟩)
 have hl0 : l.length ≠ 0 := by simpa using h0
 rw [Lib.byteCells_length] at hown
 obtain ⟨g, cap, cur, rfl, hbg, hg, hnc, hcm, hcs, htake⟩ : ∃ g cap cur, v = .slice (some ⟨g, 0, none⟩) l.length cap ∧ B ≤ g ∧ w.heap[g]? = some (.cells cur U8 (0, 0)) ∧ l.length ≤ cap ∧ cap ≤ maxLen ∧ cur.size = cap * 1 ∧ cur.toList.take (l.length * 1) = Lib.byteCells l := by
  rcases hown.2 with ⟨_, hz⟩ | ⟨g, cap, cur, hv, r⟩
  · exact absurd hz hl0
  · exact ⟨g, cap, cur, hv, r⟩
 have hgd : w.drew.heap[g]? = some (.cells cur U8 (0, 0)) := hg
 have c1 : w.drew.cell? ⟨b, 1, none⟩ = some (.slice (some ⟨g, 0, none⟩) l.length cap) := by
  have e : w.drew.heap[b]? = some (.cells #[p, .slice (some ⟨g, 0, none⟩) l.length cap] T (0, 0)) := hbk
  rw [Lib.cell_of_heap e]; rfl
 have tp : Tryz.prog.underlying 141 = some (.pointer U8) := by kernel_rfl
 have hcb : Tryz.prog.cellsOf U8 = 1 := by kernel_rfl
 have hSD : (Builtin.unsafeSliceData_ #[83] 141 #[.slice (some ⟨g, 0, none⟩) l.length cap]).run Tryz.prog w.drew = .ok (.pointer (some ⟨g, 0, none⟩)) w.drew :=
  Lib.run_unsafeSliceData_row _ _ _ _ _ _ (by omega)
 have hUS : (Builtin.unsafeString_ #[141, 3] 9 #[.pointer (some ⟨g, 0, none⟩), .int .i64 l.length]).run Tryz.prog w.drew = .ok (.string ⟨l.toArray⟩) (w.drew.freeze ⟨g, 0, none⟩ l.length) := by
  refine Lib.run_unsafeString_row w.drew 141 3 9 U8 tp hcb g cur.size (by simp [World.shape?, hgd]) l h0 (by omega) (by unfold maxLen at hcm; omega) ?_
  intro j x hx
  have := hown.cells (g := g) rfl j (.int .u8 x.toNat) (by simp [Lib.byteCells, hx])
  exact this
 go_enter Tryz.func45, Tryz.ntmps45
 have mixed : Tryz.prog.follows .mixedOrders = true := by kernel_rfl
 go_wp2
 go_region_o
 all_goals (go_wp2; go_ret; exact ⟨rfl, Lib.below_freeze (Below.drew (Below.refl B w)) (p := ⟨g, 0, none⟩) hbg _⟩)
section
variable {B b : Nat} {x : Nd}
theorem put1k {acc : Bytes} {w : World} (k : Nat) (s : Bytes) (h : Lib.IsBuilder OT U8 B b (Lib.byteCells acc) w) (hlen : acc.length + s.length ≤ 140737488355328) (hBw : B ≤ w.heap.size) (hk : k = w.heap.size) :
  Calls Tryz.prog 41 #[.pointer (some ⟨b, 0, none⟩), .slice (some ⟨k, 0, none⟩) 1 1] (w.alloc (.cells #[.string ⟨s.toArray⟩] 9)) (Wr B b acc s w) := by subst hk; exact put1 s h hlen hBw
theorem put2k {acc : Bytes} {w : World} (k : Nat) (s t : Bytes) (h : Lib.IsBuilder OT U8 B b (Lib.byteCells acc) w) (hlen : acc.length + (s ++ t).length ≤ 140737488355328) (hBw : B ≤ w.heap.size) (hk : k = w.heap.size) :
  Calls Tryz.prog 41 #[.pointer (some ⟨b, 0, none⟩), .slice (some ⟨k, 0, none⟩) 2 2] (w.alloc (.cells #[.string ⟨s.toArray⟩, .string ⟨t.toArray⟩] 9)) (Wr B b acc (s ++ t) w) := by subst hk; exact put2 s t h hlen hBw
set_option maxRecDepth 100000 in
set_option maxHeartbeats 1000000 in
theorem node1 (hK : x.kind = 1) (hin : InI x) : NodeOk B b x := by
 intro acc kv nv w hI hB hE hk hn hlen
 have htx : (txt x).1 = Lib.itoa x.num := by rw [txt_eq]; simp [nodeT, hK]
 rw [htx] at hlen ⊢
 obtain ⟨ka, kc, rfl, hkc, hkm⟩ := hk.form
 obtain ⟨na, nc, rfl, hnc, hnm2⟩ := hn.form
 unfold maxLen at hkm hnm2
 have HX := Lib.hid (alloc_bel w (.cells #[.int .i64 1, .string ⟨x.name.toArray⟩, .int .i64 x.num, .slice ka x.kids.length kc, .slice na x.names.length nc, .int .i64 x.at_] 79))
 have HBK := Lib.hid (Blk.made (T := 79) (cs := #[.int .i64 1, .string ⟨x.name.toArray⟩, .int .i64 x.num, .slice ka x.kids.length kc, .slice na x.names.length nc, .int .i64 x.at_]) w)
 have HST0 := Lib.hid (St.start hI hB)
 have HE := Lib.hid hE
 have HKT := Lib.hid hk
 have HNT := Lib.hid hn
 have HT := fun (w' : World) (h : Below B w w') => text_num x.num hin.1 hin.2 w' (hE.below h).pow
 obtain ⟨S, hS⟩ : ∃ S, Lib.itoa x.num = S := ⟨_, rfl⟩
 rw [hS] at HT hlen ⊢
 replace HT := Lib.hid HT
 unfold ndV
 rw [hK]
 clear hI hE hk hn htx hK hin hS
 go_enter Tryz.func84, Tryz.ntmps84
 go_wp2_with fail
 have HST1 := Lib.hid (HST0.out.go HX.out)
 refine (HT.out _ HST1.out.bel).mono ?_; rintro e w1 ⟨rfl, hb1⟩
 have HST2 := Lib.hid (HST1.out.go hb1)
 clear hb1
 go_wp2_with fail
 refine (put1 S HST2.out.isb hlen HST2.out.siz).mono ?_; rintro e w2 hW2
 obtain rfl := hW2.1
 have HST3 := Lib.hid (HST2.out.step hW2)
 clear hW2
 go_wp2_with fail
 go_end0
 exact HST3.out.done
set_option maxRecDepth 100000 in
set_option maxHeartbeats 1000000 in
theorem node5 (hK : x.kind = 5)  : NodeOk B b x := by
 intro acc kv nv w hI hB hE hk hn hlen
 have htx : (txt x).1 = x.name := by rw [txt_eq]; simp [nodeT, hK]
 rw [htx] at hlen ⊢
 obtain ⟨ka, kc, rfl, hkc, hkm⟩ := hk.form
 obtain ⟨na, nc, rfl, hnc, hnm2⟩ := hn.form
 unfold maxLen at hkm hnm2
 have HX := Lib.hid (alloc_bel w (.cells #[.int .i64 5, .string ⟨x.name.toArray⟩, .int .i64 x.num, .slice ka x.kids.length kc, .slice na x.names.length nc, .int .i64 x.at_] 79))
 have HBK := Lib.hid (Blk.made (T := 79) (cs := #[.int .i64 5, .string ⟨x.name.toArray⟩, .int .i64 x.num, .slice ka x.kids.length kc, .slice na x.names.length nc, .int .i64 x.at_]) w)
 have HST0 := Lib.hid (St.start hI hB)
 have HE := Lib.hid hE
 have HKT := Lib.hid hk
 have HNT := Lib.hid hn
 unfold ndV
 rw [hK]
 clear hI hE hk hn htx hK
 go_enter Tryz.func84, Tryz.ntmps84
 go_wp2_with fail
 have HST1 := Lib.hid (HST0.out.go HX.out)
 refine (put1k _ x.name HST1.out.isb hlen HST1.out.siz (by simp)).mono ?_; rintro e w2 hW2
 obtain rfl := hW2.1
 have HST3 := Lib.hid (HST1.out.step hW2)
 clear hW2
 go_wp2_with fail
 go_end0
 exact HST3.out.done
set_option maxRecDepth 100000 in
set_option maxHeartbeats 1000000 in
theorem node7 (hK : x.kind = 7) (hnm : x.name.length ≤ 1000000) (hkl : 1 ≤ x.kids.length) (hN : NodeOk B b (kid x 0)) (hyn : (kid x 0).name.length ≤ 1000000) (hM : MsgOk B b x) : NodeOk B b x := by
 intro acc kv nv w hI hB hE hk hn hlen
 have htx : (txt x).1 = sendT txt x := by rw [txt_eq]; simp [nodeT, hK]
 rw [htx] at hlen ⊢
 obtain ⟨ka, kc, rfl, hkc, hkm⟩ := hk.form
 obtain ⟨na, nc, rfl, hnc, hnm2⟩ := hn.form
 unfold maxLen at hkm hnm2
 have HX := Lib.hid (alloc_bel w (.cells #[.int .i64 7, .string ⟨x.name.toArray⟩, .int .i64 x.num, .slice ka x.kids.length kc, .slice na x.names.length nc, .int .i64 x.at_] 79))
 have HBK := Lib.hid (Blk.made (T := 79) (cs := #[.int .i64 7, .string ⟨x.name.toArray⟩, .int .i64 x.num, .slice ka x.kids.length kc, .slice na x.names.length nc, .int .i64 x.at_]) w)
 have HST0 := Lib.hid (St.start hI hB)
 have HE := Lib.hid hE
 have HKT := Lib.hid hk
 have HNT := Lib.hid hn
 have HS := fun (acc2 : Bytes) (w' : World) (h : St B b acc2 w w') (hl : acc2.length + (sendT txt x).length ≤ 140737488355328) => send_any hnm hkl hN hyn hM h.isb h.siz (h.env hE) (h.tree hk) (h.rd hn) hl
 unfold ndV at HS ⊢
 rw [hK] at HS ⊢
 replace HS := Lib.hid HS
 obtain ⟨S, hS⟩ : ∃ S, sendT txt x = S := ⟨_, rfl⟩
 rw [hS] at HS hlen ⊢
 clear hI hE hk hn htx hK hN hM hS
 go_enter Tryz.func84, Tryz.ntmps84
 go_wp2_with fail
 have HST1 := Lib.hid (HST0.out.go HX.out)
 refine (HS.out _ _ HST1.out hlen).mono ?_; rintro e w2 hW2
 obtain rfl := hW2.1
 have HST3 := Lib.hid (HST1.out.step hW2)
 clear hW2
 go_wp2_with fail
 go_end0
 exact HST3.out.done
set_option maxRecDepth 100000 in
set_option maxHeartbeats 1000000 in
theorem node10 (hK : x.kind = 10) (hkl : x.kids.length = 1) (hN : NodeOk B b (kid x 0)) : NodeOk B b x := by
 intro acc kv nv w hI hB hE hk hn hlen
 have htx : (txt x).1 = [94] ++ (txt (kid x 0)).1 := by rw [txt_eq]; simp [nodeT, hK]
 rw [htx] at hlen ⊢
 obtain ⟨ka, kc, rfl, hkc, hkm⟩ := hk.form
 obtain ⟨na, nc, rfl, hnc, hnm2⟩ := hn.form
 unfold maxLen at hkm hnm2
 have HX := Lib.hid (alloc_bel w (.cells #[.int .i64 10, .string ⟨x.name.toArray⟩, .int .i64 x.num, .slice ka x.kids.length kc, .slice na x.names.length nc, .int .i64 x.at_] 79))
 have HBK := Lib.hid (Blk.made (T := 79) (cs := #[.int .i64 10, .string ⟨x.name.toArray⟩, .int .i64 x.num, .slice ka x.kids.length kc, .slice na x.names.length nc, .int .i64 x.at_]) w)
 have HST0 := Lib.hid (St.start hI hB)
 have HE := Lib.hid hE
 have HKT := Lib.hid hk
 have HNT := Lib.hid hn
 rw [hkl] at hk HBK HX hkc
 obtain ⟨gb, off, y, ya, yc, za, zc, rfl, hy, hgb, hgB, hrow, hyk, hyn2⟩ := hk.nth 0 (by omega)
 have hkid : kid x 0 = y := by unfold kid; rw [List.getD_eq_getElem?_getD, hy]; rfl
 rw [hkid] at hN hlen ⊢
 have HL := fun (acc2 : Bytes) (w' : World) (h : St B b acc2 w w') (hl : acc2.length + (txt y).1.length ≤ 140737488355328) => hN acc2 _ _ w' h.isb h.siz (h.env hE) (h.tree hyk) (h.rd hyn2) hl
 unfold ndV at HL ⊢
 rw [hK, hkl]
 replace HL := Lib.hid HL
 have HROW := Lib.hid hrow
 obtain ⟨T, hT⟩ : ∃ T, (txt y).1 = T := ⟨_, rfl⟩
 rw [hT] at HL hlen ⊢
 simp only [List.length_append, List.length_cons, List.length_nil] at hlen
 have n1 : gb < w.heap.size := hgb
 clear hI hE hk hn htx hK hkl hN hkid hy hT hyk hyn2 hrow
 go_enter Tryz.func84, Tryz.ntmps84
 go_wp2_with fail
 have HST1 := Lib.hid (HST0.out.go HX.out)
 refine (put1k _ [94] HST1.out.isb (by simp; omega) HST1.out.siz (by simp)).mono ?_; rintro e w2 hW2
 obtain rfl := hW2.1
 have HST2 := Lib.hid (HST1.out.step hW2)
 have hkb := isb_blk HST1.out.isb HBK.out (by decide)
 have hk2 := hW2.2.2.2.blk HBK.out hkb (by decide)
 have c3 := hk2.c 3 _ rfl
 obtain ⟨q0, q1, q2, q3, q4, q5⟩ := HROW.out.kp (w' := w2) (fun i => HST2.out.bel.cell (p := ⟨gb, i, none⟩) hgB)
 simp only [Nat.zero_mul, Nat.add_zero] at q0 q1 q2 q3 q4 q5
 clear hW2 hk2
 go_wp2_with fail
 refine (HL.out _ _ HST2.out (by simp; omega)).mono ?_; rintro e w3 hW3
 obtain rfl := hW3.1
 have HST3 := Lib.hid (HST2.out.step hW3)
 clear hW3 c3 q0 q1 q2 q3 q4 q5
 go_wp2_with fail
 go_end0
 exact HST3.out.done' (by simp)
set_option maxRecDepth 100000 in
set_option maxHeartbeats 1000000 in
theorem stats_any {acc : Bytes} {w : World} (l : List Nd) (bt : Bytes) (v : Value) (hN : ∀ y ∈ l, NodeOk B b y) (hI : Lib.IsBuilder OT U8 B b (Lib.byteCells acc) w) (hB : B ≤ w.heap.size) (hE : Env B w) (hk : Tree (fun b => b < B) w v l)
  (hlen : acc.length + (joinF bt (fun i => (txt (l.getD i nd0)).1) l.length).length ≤ 140737488355328) :
  Calls Tryz.prog 44 #[.pointer (some ⟨b, 0, none⟩), v, .string ⟨bt.toArray⟩] w (Wr B b acc (joinF bt (fun i => (txt (l.getD i nd0)).1) l.length) w) := by
 obtain ⟨a, c, rfl, hc, hm⟩ := hk.form
 obtain ⟨n, hn⟩ : ∃ n, l.length = n := ⟨_, rfl⟩
 have HNN := Lib.hid hn
 unfold maxLen at hm
 rw [hn] at hk hc hlen ⊢
 obtain ⟨G, hG⟩ : ∃ G : Nat → Bytes, G = fun i => (txt (l.getD i nd0)).1 := ⟨_, rfl⟩
 rw [← hG] at hlen ⊢
 have hGk : ∀ k y, l[k]? = some y → G k = (txt y).1 := fun k y hy => by rw [hG]; show (txt (l.getD k nd0)).1 = _; rw [List.getD_eq_getElem?_getD, hy]; rfl
 have HG := Lib.hid hGk
 have HST := Lib.hid (St.start hI hB)
 have HE := Lib.hid hE
 have HK := Lib.hid hk
 have HN := Lib.hid hN
 have HLEN := Lib.hid hlen
 clear hI hE hk hN hn hlen hG hGk
 go_enter Tryz.func44, Tryz.ntmps44
 go_wp2_with fail
 go_loopw [10, 6] (fun y _ wr => ∃ k : Nat, y = .int .i64 (k : Int) ∧ k ≤ n ∧ Hid (St B b (acc ++ joinF bt G k) w wr)) (fun y _ _ => n - (intOf y).toNat)
 case atStart => exact ⟨0, rfl, Nat.zero_le _, Lib.hid (by simpa [joinF] using HST.out)⟩
 case round =>
  obtain ⟨k, rfl, hk, hst⟩ := hrel
  by_cases hkn : k < n
  · have hdec : decide ((k : Int) < (n : Int)) = true := by simpa using hkn
    have hkw : IntKind.i64.wrap ((k : Int) + 1) = (k : Int) + 1 := IntWalk.i64_in _ (by omega)
    obtain ⟨gb, off, y, ka, kc, na, nc, rfl, hy, hgb, hgB, ⟨c0, c1, c2, c3, c4, c5⟩, hyk, hyn⟩ := (hst.out.tree HK.out).nth k hkn
    have HX := Lib.hid (alloc_bel wr (.cells #[.int .i64 y.kind, .string ⟨y.name.toArray⟩, .int .i64 y.num, .slice ka y.kids.length kc, .slice na y.names.length nc, .int .i64 y.at_] 79))
    have HBK := Lib.hid (Blk.made (T := 79) (cs := #[.int .i64 y.kind, .string ⟨y.name.toArray⟩, .int .i64 y.num, .slice ka y.kids.length kc, .slice na y.names.length nc, .int .i64 y.at_]) wr)
    have hstep : joinF bt G (k + 1) = joinF bt G k ++ ((if k = 0 then [] else bt) ++ (txt y).1) := by rw [joinF_succ, HG.out k y hy]
    have hle : (joinF bt G (k + 1)).length ≤ (joinF bt G n).length := joinF_le _ _ (by omega)
    rw [hstep] at hle
    simp only [List.length_append] at hle
    have hL := HLEN.out
    have HSTEP := Lib.hid hstep
    have hNy := HN.out y (List.mem_of_getElem? hy)
    have HNY := fun (acc2 : Bytes) (w' : World) (h : St B b acc2 w w') (hw : Below B wr w') (hl : acc2.length + (txt y).1.length ≤ 140737488355328) => hNy acc2 _ _ w' h.isb h.siz (h.env HE.out) (hyk.kp (Kp.lt hw)) (hyn.kp (Kp.lt hw)) hl
    unfold ndV at HNY
    replace HNY := Lib.hid HNY
    clear hy hstep hNy hyk hyn
    by_cases hk0 : k = 0
    · have hk1 : decide (0 < k) = false := decide_eq_false (by omega)
      rw [if_pos hk0] at hle
      simp only [List.length_nil, Nat.zero_add] at hle
      have HK0 := Lib.hid hk0
      clear hk0
      go_wp2_with fail
      have HST1 := Lib.hid (hst.out.go HX.out)
      refine (HNY.out _ _ HST1.out (HX.out.mono hst.out.siz) (by simp only [List.length_append]; omega)).mono ?_; rintro e w2 hW2
      obtain rfl := hW2.1
      have HST2 : Hid (St B b (acc ++ joinF bt G (k + 1)) w w2) := Lib.hid (by
       have h := HST1.out.step hW2
       rw [HSTEP.out]
       simpa [HK0.out] using h)
      clear hW2
      go_wp2_with fail
      exact ⟨⟨k + 1, by simp, by omega, HST2⟩, by simp only [intOf]; omega⟩
    · have hk1 : decide (0 < k) = true := decide_eq_true (by omega)
      rw [if_neg hk0] at hle
      have HK0 := Lib.hid hk0
      go_wp2_with fail
      have HST1 := Lib.hid (hst.out.go HX.out)
      refine (put1k _ bt HST1.out.isb (by simp only [List.length_append]; omega) HST1.out.siz (by simp)).mono ?_; rintro e w2 hW2
      obtain rfl := hW2.1
      have HST2 := Lib.hid (HST1.out.step hW2)
      have hkb := isb_blk HST1.out.isb HBK.out (by decide)
      have hk2 := hW2.2.2.2.blk HBK.out hkb (by decide)
      have HB2 := Lib.hid ((HX.out.mono hst.out.siz).trans hW2.2.2.1)
      have d0 := hk2.c 0 _ rfl
      have d1 := hk2.c 1 _ rfl
      have d2 := hk2.c 2 _ rfl
      have d3 := hk2.c 3 _ rfl
      have d4 := hk2.c 4 _ rfl
      have d5 := hk2.c 5 _ rfl
      clear hW2 hk2 c0 c1 c2 c3 c4 c5
      go_wp2_with fail
      refine (HNY.out _ _ HST2.out HB2.out (by simp only [List.length_append]; omega)).mono ?_; rintro e w3 hW3
      obtain rfl := hW3.1
      have HST3 : Hid (St B b (acc ++ joinF bt G (k + 1)) w w3) := Lib.hid (by
       have h := HST2.out.step hW3
       rw [HSTEP.out]
       simpa [HK0.out] using h)
      clear hW3 d0 d1 d2 d3 d4 d5
      go_wp2_with fail
      exact ⟨⟨k + 1, by simp, by omega, HST3⟩, by simp only [intOf]; omega⟩
  · obtain rfl : k = n := by omega
    have hdec : decide ((k : Int) < (k : Int)) = false := by simp
    go_wp2_with fail
    go_end0
    exact hst.out.done
end
end Tr
end Go.Proofs.YtbdgoimbddlcoaaGreatDoor
