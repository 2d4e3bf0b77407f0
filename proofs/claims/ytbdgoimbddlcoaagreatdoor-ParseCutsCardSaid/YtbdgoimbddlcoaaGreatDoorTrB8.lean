/- Package tree, the walk: cascades, blocks; node, of the other kinds (printed by gen_trb8.py). -/
import Derived.Test.YtbdgoimbddlcoaaGreatDoorTrB7
import Derived.Test.YtbdgoimbddlcoaaGreatDoorShelfR
set_option linter.unusedVariables false
namespace Go.Proofs.YtbdgoimbddlcoaaGreatDoor
open Go.RowKit
namespace Tr
open Bs Sm
section
variable {B b : Nat} {x : Nd}
def SendOk (B b : Nat) (x : Nd) : Prop := ∀ (acc : Bytes) (kv nv : Value) (w : World), Lib.IsBuilder OT U8 B b (Lib.byteCells acc) w → B ≤ w.heap.size → Env B w → Tree (fun b => b < B) w kv x.kids → Rd (fun b => b < B) strV w nv x.names →
 acc.length + (sendT txt x).length ≤ 140737488355328 → Calls Tryz.prog 140 #[.pointer (some ⟨b, 0, none⟩), ndV x kv nv] w (Wr B b acc (sendT txt x) w)
set_option maxRecDepth 100000 in
set_option maxHeartbeats 1600000 in
theorem cascade_any (h1 : 2 ≤ x.kids.length) (hS : SendOk B b (kid x 0)) (e0 : (txt (kid x 0)).1 = sendT txt (kid x 0)) (hM : ∀ i, 0 < i → i < x.kids.length → MsgOk B b (kid x i) ∧ (txt (kid x i)).2 = msgT txt (kid x i))
  (acc : Bytes) (kv : Value) (w : World) (hI : Lib.IsBuilder OT U8 B b (Lib.byteCells acc) w) (hB : B ≤ w.heap.size) (hE : Env B w) (hk : Tree (fun b => b < B) w kv x.kids) (hlen : acc.length + (cascT txt x).length ≤ 140737488355328) :
  Calls Tryz.prog 141 #[.pointer (some ⟨b, 0, none⟩), kv] w (Wr B b acc (cascT txt x) w) := by
 obtain ⟨ka, kc, rfl, hkc, hkm⟩ := hk.form
 unfold maxLen at hkm
 obtain ⟨gb, off, y, ya, yc, za, zc, rfl, hy, hgb, hgB, hrow, hyk, hyn⟩ := hk.nth 0 (by omega)
 have hkid : kid x 0 = y := by unfold kid; rw [List.getD_eq_getElem?_getD, hy]; rfl
 have hp := hk.part 1 x.kids.length (by omega) (Nat.le_refl _) (a' := some ⟨gb, off + 1 * 6, none⟩) (.inr ⟨gb, off, rfl, rfl⟩)
 rw [List.take_length] at hp
 obtain ⟨n, hn⟩ : ∃ n, x.kids.length = n + 1 := ⟨x.kids.length - 1, by omega⟩
 obtain ⟨H, hH⟩ : ∃ H : Nat → Bytes, H = fun i => [59, 32] ++ (txt (kid x (i + 1))).2 := ⟨_, rfl⟩
 unfold cascT at hlen ⊢
 rw [e0, hkid, ← hH, hn] at hlen ⊢
 rw [hkid] at hS
 rw [hn] at hp hkc h1
 have hHk : ∀ k z, (x.kids.drop 1)[k]? = some z → H k = [59, 32] ++ msgT txt z ∧ MsgOk B b z := fun k z hz => by
  rw [List.getElem?_drop] at hz
  have hki : kid x (k + 1) = z := by unfold kid; rw [List.getD_eq_getElem?_getD, Nat.add_comm k 1, hz]; rfl
  have hlt := (List.getElem?_eq_some_iff.1 hz).1
  obtain ⟨m1, m2⟩ := hM (k + 1) (by omega) (by omega)
  rw [hki] at m1 m2
  rw [hH]
  exact ⟨by show [59, 32] ++ (txt (kid x (k + 1))).2 = _; rw [hki, m2], m1⟩
 obtain ⟨l, hl⟩ : ∃ l, x.kids.drop 1 = l := ⟨_, rfl⟩
 rw [hl] at hp hHk
 simp only [Nat.add_sub_cancel, Nat.one_mul] at hp hlen ⊢
 obtain ⟨T, hT⟩ : ∃ T, sendT txt y = T := ⟨_, rfl⟩
 have HSD := fun (acc2 : Bytes) (w' : World) (h : St B b acc2 w w') (hl : acc2.length + (sendT txt y).length ≤ 140737488355328) => hS acc2 _ _ w' h.isb h.siz (h.env hE) (h.tree hyk) (h.rd hyn) hl
 rw [hT] at HSD hlen ⊢
 unfold ndV at HSD
 have HST := Lib.hid (St.start hI hB)
 replace HSD := Lib.hid HSD
 have HH := Lib.hid hHk
 have HE := Lib.hid hE
 have HP := Lib.hid hp
 have HLEN := Lib.hid hlen
 obtain ⟨q0, q1, q2, q3, q4, q5⟩ := hrow
 simp only [Nat.zero_mul, Nat.add_zero] at q0 q1 q2 q3 q4 q5
 have hn1 : 1 ≤ n := by omega
 clear hI hE hk hyk hyn hS hM hlen hH hHk hn hT hkid hl e0 hp hy
 have hd1 : decide ((1 : Int) ≤ (n : Int) + 1) = true := decide_eq_true (by omega)
 go_enter Tryz.func141, Tryz.ntmps141
 go_wp2_with fail
 refine (HSD.out _ _ HST.out (by have := HLEN.out; simp only [List.length_append] at this; omega)).mono ?_; rintro e w1 hW1
 obtain rfl := hW1.1
 have HST1 : Hid (St B b (acc ++ (T ++ joinF [] H 0)) w w1) := Lib.hid (by
  have h := HST.out.step hW1
  rw [joinF_zero]; simpa using h)
 clear hW1 q0 q1 q2 q3 q4 q5
 go_wp2_with fail
 go_loopw [14, 5] (fun y _ wr => ∃ k : Nat, y = .int .i64 (k : Int) ∧ k ≤ n ∧ Hid (St B b (acc ++ (T ++ joinF [] H k)) w wr)) (fun y _ _ => n - (intOf y).toNat)
 case atStart => exact ⟨0, rfl, Nat.zero_le _, HST1⟩
 case round =>
  obtain ⟨k, rfl, hk, hst⟩ := hrel
  by_cases hkn : k < n
  · have hdec : decide ((k : Int) < (n : Int)) = true := by simpa using hkn
    have hkw : IntKind.i64.wrap ((k : Int) + 1) = (k : Int) + 1 := IntWalk.i64_in _ (by omega)
    obtain ⟨gb', off', y, ka, kc, na, nc, hgo, hy, hgb, hgB, ⟨c0, c1, c2, c3, c4, c5⟩, hyk, hyn⟩ := (hst.out.tree HP.out).nth k hkn
    cases hgo
    have HX := Lib.hid (alloc_bel wr (.cells #[.int .i64 y.kind, .string ⟨y.name.toArray⟩, .int .i64 y.num, .slice ka y.kids.length kc, .slice na y.names.length nc, .int .i64 y.at_] 79))
    have HBK := Lib.hid (Blk.made (T := 79) (cs := #[.int .i64 y.kind, .string ⟨y.name.toArray⟩, .int .i64 y.num, .slice ka y.kids.length kc, .slice na y.names.length nc, .int .i64 y.at_]) wr)
    obtain ⟨hHy, hMy⟩ := HH.out k y hy
    have hstep : joinF [] H (k + 1) = joinF [] H k ++ ([59, 32] ++ msgT txt y) := by rw [joinF_succ, hHy]; split <;> rfl
    have hle : (joinF [] H (k + 1)).length ≤ (joinF [] H n).length := joinF_le _ _ (by omega)
    rw [hstep] at hle
    simp only [List.length_append, List.length_cons, List.length_nil] at hle
    have hL := HLEN.out
    simp only [List.length_append] at hL
    have HSTEP := Lib.hid hstep
    have HMY := fun (acc2 : Bytes) (w' : World) (h : St B b acc2 w w') (hw : Below B wr w') (hl : acc2.length + (msgT txt y).length ≤ 140737488355328) => hMy acc2 _ _ w' h.isb h.siz (h.env HE.out) (hyk.kp (Kp.lt hw)) (hyn.kp (Kp.lt hw)) hl
    unfold ndV at HMY
    replace HMY := Lib.hid HMY
    clear hy hstep hMy hyk hyn hHy
    go_wp2_with fail
    have HST1 := Lib.hid (hst.out.go HX.out)
    refine (put1k _ [59, 32] HST1.out.isb (by simp only [List.length_append, List.length_cons, List.length_nil]; omega) HST1.out.siz (by simp)).mono ?_; rintro e w2 hW2
    obtain rfl := hW2.1
    have HST2 := Lib.hid (HST1.out.step hW2)
    have hkb := isb_blk HST1.out.isb HBK.out (by decide)
    have hk2 := hW2.2.2.2.blk HBK.out hkb (by decide)
    have HB2 := Lib.hid ((HX.out.mono hst.out.siz).trans hW2.2.2.1)
    have d0 := hk2.c 0 _ rfl
    have d1 := hk2.c 1 _ rfl
    have d2 := hk2.c 2 _ rfl
    have d3 := hk2.c 3 _ rfl
    have d4 := hk2.c 4 _ rfl
    have d5 := hk2.c 5 _ rfl
    clear hW2 hk2 c0 c1 c2 c3 c4 c5
    go_wp2_with fail
    refine (HMY.out _ _ HST2.out HB2.out (by simp only [List.length_append, List.length_cons, List.length_nil]; omega)).mono ?_; rintro e w3 hW3
    obtain rfl := hW3.1
    have HST3 : Hid (St B b (acc ++ (T ++ joinF [] H (k + 1))) w w3) := Lib.hid (by
     have h := HST2.out.step hW3
     rw [HSTEP.out]
     simpa using h)
    clear hW3 d0 d1 d2 d3 d4 d5
    go_wp2_with fail
    exact ⟨⟨k + 1, by simp, by omega, HST3⟩, by simp only [intOf]; omega⟩
  · obtain rfl : k = n := by omega
    have hdec : decide ((k : Int) < (k : Int)) = false := by simp
    go_wp2_with fail
    go_end0
    exact hst.out.done
set_option maxRecDepth 100000 in
set_option maxHeartbeats 1000000 in
theorem node8 (hK : x.kind = 8) (h1 : 2 ≤ x.kids.length) (hS : SendOk B b (kid x 0)) (e0 : (txt (kid x 0)).1 = sendT txt (kid x 0)) (hM : ∀ i, 0 < i → i < x.kids.length → MsgOk B b (kid x i) ∧ (txt (kid x i)).2 = msgT txt (kid x i)) : NodeOk B b x := by
 intro acc kv nv w hI hB hE hk hn hlen
 have htx : (txt x).1 = cascT txt x := by rw [txt_eq]; simp [nodeT, hK]
 rw [htx] at hlen ⊢
 obtain ⟨ka, kc, rfl, hkc, hkm⟩ := hk.form
 obtain ⟨na, nc, rfl, hnc, hnm2⟩ := hn.form
 unfold maxLen at hkm hnm2
 have HX := Lib.hid (alloc_bel w (.cells #[.int .i64 8, .string ⟨x.name.toArray⟩, .int .i64 x.num, .slice ka x.kids.length kc, .slice na x.names.length nc, .int .i64 x.at_] 79))
 have HBK := Lib.hid (Blk.made (T := 79) (cs := #[.int .i64 8, .string ⟨x.name.toArray⟩, .int .i64 x.num, .slice ka x.kids.length kc, .slice na x.names.length nc, .int .i64 x.at_]) w)
 have HST0 := Lib.hid (St.start hI hB)
 have HE := Lib.hid hE
 have HKT := Lib.hid hk
 have HNT := Lib.hid hn
 have HC := fun (acc2 : Bytes) (w' : World) (h : St B b acc2 w w') (hl : acc2.length + (cascT txt x).length ≤ 140737488355328) => cascade_any h1 hS e0 hM acc2 _ w' h.isb h.siz (h.env hE) (h.tree hk) hl
 obtain ⟨T, hT⟩ : ∃ T, cascT txt x = T := ⟨_, rfl⟩
 rw [hT] at HC hlen ⊢
 replace HC := Lib.hid HC
 unfold ndV
 rw [hK]
 clear hI hE hk hn htx hK hT hS hM e0
 go_enter Tryz.func84, Tryz.ntmps84
 go_wp2_with fail
 have HST1 := Lib.hid (HST0.out.go HX.out)
 refine (HC.out _ _ HST1.out hlen).mono ?_; rintro e w2 hW2
 obtain rfl := hW2.1
 have HST3 := Lib.hid (HST1.out.step hW2)
 clear hW2
 go_wp2_with fail
 go_end0
 exact HST3.out.done
set_option maxRecDepth 100000 in
set_option maxHeartbeats 1000000 in
theorem node4 (hK : x.kind = 4) (hL : ListOk B b x) : NodeOk B b x := by
 intro acc kv nv w hI hB hE hk hn hlen
 have htx : (txt x).1 = [35, 40] ++ (listT txt x ++ [41]) := by rw [txt_eq]; simp [nodeT, hK]
 rw [htx] at hlen ⊢
 obtain ⟨ka, kc, rfl, hkc, hkm⟩ := hk.form
 obtain ⟨na, nc, rfl, hnc, hnm2⟩ := hn.form
 unfold maxLen at hkm hnm2
 have HX := Lib.hid (alloc_bel w (.cells #[.int .i64 4, .string ⟨x.name.toArray⟩, .int .i64 x.num, .slice ka x.kids.length kc, .slice na x.names.length nc, .int .i64 x.at_] 79))
 have HBK := Lib.hid (Blk.made (T := 79) (cs := #[.int .i64 4, .string ⟨x.name.toArray⟩, .int .i64 x.num, .slice ka x.kids.length kc, .slice na x.names.length nc, .int .i64 x.at_]) w)
 have HST0 := Lib.hid (St.start hI hB)
 have HE := Lib.hid hE
 have HKT := Lib.hid hk
 have HNT := Lib.hid hn
 have HC := fun (acc2 : Bytes) (w' : World) (h : St B b acc2 w w') (hl : acc2.length + ([35, 40] ++ (listT txt x ++ [41])).length ≤ 140737488355328) => hL [35, 40] acc2 _ _ w' h.isb h.siz (h.env hE) (h.tree hk) (h.rd hn) hl
 obtain ⟨T, hT⟩ : ∃ T, [35, 40] ++ (listT txt x ++ [41]) = T := ⟨_, rfl⟩
 rw [hT] at HC hlen ⊢
 unfold ndV at HC ⊢
 rw [hK] at HC ⊢
 replace HC := Lib.hid HC
 clear hI hE hk hn htx hK hT hL
 go_enter Tryz.func84, Tryz.ntmps84
 go_wp2_with fail
 have HST1 := Lib.hid (HST0.out.go HX.out)
 refine (HC.out _ _ HST1.out hlen).mono ?_; rintro e w2 hW2
 obtain rfl := hW2.1
 have HST3 := Lib.hid (HST1.out.step hW2)
 clear hW2
 go_wp2_with fail
 go_end0
 exact HST3.out.done
end
end Tr
end Go.Proofs.YtbdgoimbddlcoaaGreatDoor
