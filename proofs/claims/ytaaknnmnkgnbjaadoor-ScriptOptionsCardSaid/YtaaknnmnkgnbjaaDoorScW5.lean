/- Script, the walk, 5: read. -/
import Derived.Test.YtaaknnmnkgnbjaaDoorScM
set_option linter.unusedVariables false
namespace Go.Proofs.YtaaknnmnkgnbjaaDoor
open Go.RowKit
namespace Sc
open Bs Sm
theorem vint {k : IntKind} {a b : Int} (h : a = b) : Value.int k a = Value.int k b := by rw [h]
abbrev CmT : Nat := 42
/-- What read hands back. -/
def Readd (x : Except Int Cmd) (w : World) (e : Ending) (w' : World) : Prop :=
  Below w.heap.size w w' ∧ match x with
  | .error n => e = .returned (.tuple #[.agg #[.int .i64 0, .int .i64 0, .int .i64 0, .slice none 0 0, .slice none 0 0], .int .i64 n]) ∧ n ≠ 0
  | .ok c => ∃ lo ln lc bo bn bc, e = .returned (.tuple #[.agg #[.int .i64 (c.kind : Int), .int .i64 c.n, .int .i64 c.at_, .slice lo ln lc, .slice bo bn bc], .int .i64 0]) ∧ Ints w.heap.size (.slice lo ln lc) c.list w' ∧ Byts w.heap.size (.slice bo bn bc) c.bytes w'
theorem read_bad {k : Nat} {args : List Bytes} (h : countOk k args.length = false) : readW k args = .error 3 := by unfold readW; rw [if_pos h]
theorem read_input {args : List Bytes} : readW 2 args = match bytesR args with
    | none => .error 3
    | some b => .ok ⟨2, 0, 0, [], b⟩ := rfl
theorem read_nums {k : Nat} {args : List Bytes} (h : countOk k args.length = true) (h2 : k ≠ 2) : readW k args = if worstF (k == 8) 0 args 0 ≠ 0 then .error (worstF (k == 8) 0 args 0) else .ok (cmdOf k (numsF (k == 8) 0 args)) := by
  unfold readW; rw [if_neg (by rw [h]; decide), if_neg h2]
theorem blk5 {T k : Nat} {a0 a1 a2 a3 a4 : Value} {w : World} (h : Blk T k #[a0, a1, a2, a3, a4] w) (b0 b1 b2 b3 b4 : Value) :
    Blk T k #[b0, b1, b2, b3, b4] (((((w.setCell ⟨k, 0, none⟩ b0).setCell ⟨k, 1, none⟩ b1).setCell ⟨k, 2, none⟩ b2).setCell ⟨k, 3, none⟩ b3).setCell ⟨k, 4, none⟩ b4) :=
  ((((h.set_ 0 b0 _ rfl).set_ 1 b1 _ rfl).set_ 2 b2 _ rfl).set_ 3 b3 _ rfl).set_ 4 b4 _ rfl
theorem below5 {B k : Nat} {w0 w : World} (h : Below B w0 w) (hk : B ≤ k) (b0 b1 b2 b3 b4 : Value) :
    Below B w0 (((((w.setCell ⟨k, 0, none⟩ b0).setCell ⟨k, 1, none⟩ b1).setCell ⟨k, 2, none⟩ b2).setCell ⟨k, 3, none⟩ b3).setCell ⟨k, 4, none⟩ b4) :=
  ((((h.setCell (p := ⟨k, 0, none⟩) hk b0).setCell (p := ⟨k, 1, none⟩) hk b1).setCell (p := ⟨k, 2, none⟩) hk b2).setCell (p := ⟨k, 3, none⟩) hk b3).setCell (p := ⟨k, 4, none⟩) hk b4
theorem own5 {w : World} {B e size n k : Nat} {v : Value} {xs : List Value} (h : w.ownsRow B e size v n xs) (hkB : k < B) (b0 b1 b2 b3 b4 : Value) :
    (((((w.setCell ⟨k, 0, none⟩ b0).setCell ⟨k, 1, none⟩ b1).setCell ⟨k, 2, none⟩ b2).setCell ⟨k, 3, none⟩ b3).setCell ⟨k, 4, none⟩ b4).ownsRow B e size v n xs :=
  own_set_at (own_set_at (own_set_at (own_set_at (own_set_at h hkB 0 b0) hkB 1 b1) hkB 2 b2) hkB 3 b3) hkB 4 b4
set_option maxRecDepth 100000 in
set_option maxHeartbeats 3200000 in
theorem read_any (wv : Value) (w0 : Bytes) (args : List Bytes) (w : World) (hw : StAt w wv (w0 :: args)) (hsz : ∀ x ∈ w0 :: args, x ≠ [] ∧ x.length ≤ 65536) (hn : args.length ≤ 65536) (hev : ErrVar w) (hp : Pow10 w) :
    Calls Tryd.prog 17 #[wv] w (Readd (readW (kindF 8 w0) args) w) := by
  obtain ⟨E, hE0⟩ : ∃ E, readW (kindF 8 w0) args = E := ⟨_, rfl⟩
  rw [hE0]
  have HE0 := Lib.hid hE0
  clear hE0
  obtain ⟨ao, cap, rfl, hcap, hcells⟩ := hw
  obtain ⟨wb, off, rfl, hwb, hcm, hcc⟩ := hcells (by simp)
  rw [List.length_cons] at hcap ⊢
  obtain ⟨n, hnn⟩ : ∃ n, args.length = n := ⟨_, rfl⟩
  rw [hnn] at hcap hn ⊢
  have HN := Lib.hid hnn
  have HSZ := Lib.hid hsz
  have HEV := Lib.hid hev
  have HP := Lib.hid hp
  have c0 := hcc 0 w0 rfl
  obtain ⟨W, hW⟩ : ∃ W : ByteArray, (⟨w0.toArray⟩ : ByteArray) = W := ⟨_, rfl⟩
  have hWl : W.data.toList = w0 := by rw [← hW]
  rw [show strV w0 = .string W by rw [← hW]; rfl, Nat.add_zero] at c0
  have HWL := Lib.hid hWl
  have HCC := Lib.hid hcc
  clear hnn hsz hev hp hcells hW hWl hcc
  go_enter Tryd.func17, Tryd.ntmps17
  go_wp2_with fail
  have hz0 := (Blk.made (T := CmT) (cs := #[.int .i64 0, .int .i64 0, .int .i64 0, .slice none 0 0, .slice none 0 0]) w).alloc (.cells #[.int .i64 0, .int .i64 0, .int .i64 0, .slice none 0 0, .slice none 0 0] CmT)
  have hc0 := Blk.made (T := CmT) (cs := #[.int .i64 0, .int .i64 0, .int .i64 0, .slice none 0 0, .slice none 0 0]) (w.alloc (.cells #[.int .i64 0, .int .i64 0, .int .i64 0, .slice none 0 0, .slice none 0 0] CmT))
  rw [show (w.alloc (.cells #[.int .i64 0, .int .i64 0, .int .i64 0, .slice none 0 0, .slice none 0 0] CmT)).heap.size = w.heap.size + 1 by simp] at hc0
  have hb0 : Below w.heap.size w ((w.alloc (.cells #[.int .i64 0, .int .i64 0, .int .i64 0, .slice none 0 0, .slice none 0 0] CmT)).alloc (.cells #[.int .i64 0, .int .i64 0, .int .i64 0, .slice none 0 0, .slice none 0 0] CmT)) := ((Below.refl _ w).alloc (Nat.le_refl _) _).alloc (by simp) _
  obtain ⟨W1, hW1⟩ : ∃ W1, (w.alloc (.cells #[.int .i64 0, .int .i64 0, .int .i64 0, .slice none 0 0, .slice none 0 0] CmT)).alloc (.cells #[.int .i64 0, .int .i64 0, .int .i64 0, .slice none 0 0, .slice none 0 0] CmT) = W1 := ⟨_, rfl⟩
  rw [hW1] at hz0 hc0 hb0 ⊢
  have HZ0 := Lib.hid hz0
  have HC0 := Lib.hid hc0
  have HB0 := Lib.hid hb0
  clear hW1 hz0 hc0 hb0
  go_loopw [5] (fun y wr => ∃ j : Nat, y = .int .i64 ((j + 1 : Nat) : Int) ∧ j ≤ 8 ∧ Hid (Blk CmT w.heap.size #[.int .i64 0, .int .i64 0, .int .i64 0, .slice none 0 0, .slice none 0 0] wr) ∧ Hid (Blk CmT (w.heap.size + 1) #[.int .i64 (kindF j w0 : Nat), .int .i64 0, .int .i64 0, .slice none 0 0, .slice none 0 0] wr) ∧ Hid (Below w.heap.size w wr)) (fun y _ => 10 - (intOf y).toNat)
  case atStart => exact ⟨0, rfl, by omega, HZ0, HC0, HB0⟩
  case round =>
    obtain ⟨j, rfl, hj, hZ, hC, hbr⟩ := hrel
    by_cases hj8 : j < 8
    · have hdec : decide (((j + 1 : Nat) : Int) ≤ 8) = true := decide_eq_true (by omega)
      have hkw : IntKind.i64.wrap (((j + 1 : Nat) : Int) + 1) = ((j + 1 + 1 : Nat) : Int) := by rw [show (((j + 1 : Nat) : Int) + 1) = ((j + 1 + 1 : Nat) : Int) by omega]; exact IntWalk.i64_in _ (by omega)
      have hnm := fun v => name_any (j + 1) (by omega) v
      obtain ⟨NB, hNB⟩ : ∃ b : ByteArray, (⟨(nameR (j + 1)).toArray⟩ : ByteArray) = b := ⟨_, rfl⟩
      have hNl : NB.data.toList = nameR (j + 1) := by rw [← hNB]
      rw [hNB] at hnm
      have HNM := Lib.hid hnm
      have hS : ∀ v, Below wr.heap.size wr v → v.cell? ⟨wb, off, none⟩ = some (.string W) := fun v hv => ((hbr.out.trans (hv.mono hbr.out.size)).cell (p := ⟨wb, off, none⟩) hwb).trans c0
      obtain ⟨J, hJ⟩ : ∃ J : Nat, j + 1 = J := ⟨_, rfl⟩
      have hkf : kindF J w0 = if nameR J = w0 then J else kindF j w0 := by rw [← hJ]; rfl
      rw [hJ] at hdec hkw hNl HNM ⊢
      have HKF := Lib.hid hkf
      have HNL := Lib.hid hNl
      have HJ := Lib.hid hJ
      clear hnm hNB hkf hNl hJ
      go_wp2_with fail
      refine wp_region_noPanic ?_
      refine Hd.start (fun v => v.cell? ⟨wb, off, none⟩ = some (.string W)) (by kernel_rfl) (hS _ (Below.refl _ _).drew) (fun hH0 => ?_)
      refine Hd.take 0 1 (oi := ?_) (v := ?_) ?_ (by kernel_rfl) (fun _ _ _ h => h) hH0 ?_ ?_ ?_
      rotate_left 2
      · simp only [List.getElem?_toArray, List.getElem?_cons_zero]
        exact rfl
      · rfl
      · intro w hSw
        (try dsimp only at hSw)
        go_simp
        try with_reducible rfl
      try simp only [Act.put, List.setIfInBounds_toArray, List.set_cons_zero, List.set_cons_succ]
      refine Hd.take 2 3 (oi := ?_) (v := ?_) ?_ (by kernel_rfl) (fun _ _ _ h => h) hH0 ?_ ?_ ?_
      rotate_left 2
      · simp only [List.getElem?_toArray, List.getElem?_cons_succ, List.getElem?_cons_zero]
        exact rfl
      · rfl
      · intro w hSw
        (try dsimp only at hSw)
        go_simp
        try with_reducible rfl
      try simp only [Act.put, List.setIfInBounds_toArray, List.set_cons_zero, List.set_cons_succ]
      refine Hd.take 3 4 (oi := ?_) (v := ?_) ?_ (by kernel_rfl) (fun _ _ _ h => h) hH0 ?_ ?_ ?_
      rotate_left 2
      · simp only [List.getElem?_toArray, List.getElem?_cons_succ, List.getElem?_cons_zero]
        exact rfl
      · rfl
      · intro w hSw
        (try dsimp only at hSw)
        go_simp
        try with_reducible rfl
      try simp only [Act.put, List.setIfInBounds_toArray, List.set_cons_zero, List.set_cons_succ]
      refine Hd.take 4 5 (oi := ?_) (v := ?_) ?_ (by kernel_rfl) (fun _ _ _ h => h) hH0 ?_ ?_ ?_
      rotate_left 2
      · simp only [List.getElem?_toArray, List.getElem?_cons_succ, List.getElem?_cons_zero]
        exact rfl
      · rfl
      · intro w hSw
        (try dsimp only at hSw)
        go_simp
        try with_reducible rfl
      try simp only [Act.put, List.setIfInBounds_toArray, List.set_cons_zero, List.set_cons_succ]
      refine Hd.one 1 1 (o := ?_) ?_ (by kernel_rfl) (fun K hK => ?_)
      rotate_left 1
      · simp only [List.getElem?_toArray, List.getElem?_cons_succ, List.getElem?_cons_zero]
        exact rfl
      go_simp
      refine (HNM.out _).mono ?_; rintro e w3 ⟨rfl, hb3⟩
      have hb3 := (Below.refl _ wr).drew.trans hb3
      go_wp2_with fail
      refine hK.out _ _ (hS _ hb3) (fun hH1 => ?_)
      clear hK K
      try simp only [Act.put, List.setIfInBounds_toArray, List.set_cons_zero, List.set_cons_succ]
      refine Hd.last 5 (o := ?_) ?_ (by kernel_rfl) (by kernel_rfl) (by kernel_rfl) (fun K hK => ?_)
      rotate_left 1
      · simp only [List.getElem?_toArray, List.getElem?_cons_succ, List.getElem?_cons_zero]
        exact rfl
      go_simp
      refine hK.out _ _ ?_
      clear hK K
      try simp only [Act.put, List.setIfInBounds_toArray, List.set_cons_zero, List.set_cons_succ]
      simp only [NoPanic]
      have hb3w := hbr.out.trans (hb3.mono hbr.out.size)
      have hZ3 := hZ.out.below hb3 hZ.out.lt
      have hC3 := hC.out.below hb3 hC.out.lt
      clear hH0 hH1 hS
      by_cases hq : nameR J = w0
      · have he : (NB.toList == W.toList) = true := by rw [ByteArray.toList_eq, ByteArray.toList_eq, HNL.out, HWL.out, hq]; simp
        have hk : kindF J w0 = J := by rw [HKF.out, if_pos hq]
        have q0 := hC3.c 0 _ rfl
        have qf := hC3.fz
        have HC4 : Hid (Blk CmT (w.heap.size + 1) #[.int .i64 (kindF J w0 : Nat), .int .i64 0, .int .i64 0, .slice none 0 0, .slice none 0 0] (w3.setCell ⟨w.heap.size + 1, 0, none⟩ (.int .i64 (J : Int)))) := Lib.hid (by rw [hk]; exact hC3.set_ 0 _ _ rfl)
        have HZ4 := Lib.hid (hZ3.far (p := ⟨w.heap.size + 1, 0, none⟩) (show w.heap.size ≠ w.heap.size + 1 by omega) (.int .i64 (J : Int)))
        have HB4 := Lib.hid (hb3w.setCell (p := ⟨w.heap.size + 1, 0, none⟩) (by show w.heap.size ≤ w.heap.size + 1; omega) (.int .i64 (J : Int)))
        clear hq hk hC3 hZ3 hb3w hb3
        rw [he]
        go_wp2_with fail
        exact ⟨⟨J, vint (by omega), by have := HJ.out; omega, HZ4, HC4, HB4⟩, by simp only [intOf]; have := HJ.out; omega⟩
      · have he : (NB.toList == W.toList) = false := by rw [beq_eq_false_iff_ne, ByteArray.toList_eq, ByteArray.toList_eq, HNL.out, HWL.out]; exact hq
        have hk : kindF J w0 = kindF j w0 := by rw [HKF.out, if_neg hq]
        rw [← hk] at hC3
        have HC4 := Lib.hid hC3
        have HZ4 := Lib.hid hZ3
        have HB4 := Lib.hid hb3w
        clear hq hk hC3 hZ3 hb3w hb3
        rw [he]
        go_wp2_with fail
        exact ⟨⟨J, vint (by omega), by have := HJ.out; omega, HZ4, HC4, HB4⟩, by simp only [intOf]; have := HJ.out; omega⟩
    · obtain rfl : j = 8 := by omega
      have hkl := kindF_le 8 w0
      obtain ⟨K, hK⟩ : ∃ K, kindF 8 w0 = K := ⟨_, rfl⟩
      rw [hK] at hC hkl
      have HK := Lib.hid hK
      have HKL := Lib.hid hkl
      clear hK hkl
      obtain ⟨X0, X1, X2, X3, X4, X5, m0, m1, m2, m3, m4, m5, hbm, hlk⟩ := counts_laid wr
      have hlk := hlk K HKL.out
      have hC5 := hC.out.below hbm hC.out.lt
      have hZ5 := hZ.out.below hbm hZ.out.lt
      have hb5 := hbr.out.trans (hbm.mono hbr.out.size)
      obtain ⟨MB, hMB⟩ : ∃ b, wr.heap.size = b := ⟨_, rfl⟩
      rw [hMB] at m0 m1 m2 m3 m4 m5 hlk
      have HC5 := Lib.hid hC5
      have HZ5 := Lib.hid hZ5
      have HB5 := Lib.hid hb5
      have q0 := hC5.c 0 _ rfl
      have hcap1 : (1 : Int) ≤ (cap : Int) := by omega
      clear hC hZ hbr hbm hMB hC5 hZ5 hb5
      go_upto_region 9 with fail
      have hst : StAt w (.slice (if cap = 1 then some ⟨wb, off, none⟩ else some ⟨wb, off + 1, none⟩) n (cap - 1)) args := by
        refine ⟨_, _, by rw [HN.out], by rw [HN.out]; omega, fun hl => ?_⟩
        have hn0 : 0 < n := by rw [← HN.out]; exact hl
        exact ⟨wb, off + 1, by rw [if_neg (by omega)], hwb, by omega, fun i x hx => by
          have := HCC.out (i + 1) x (by simpa using hx)
          rw [show off + (i + 1) = off + 1 + i by omega] at this
          exact this⟩
      obtain ⟨ac, hac⟩ : ∃ a, (if cap = 1 then some (⟨wb, off, none⟩ : Addr) else some ⟨wb, off + 1, none⟩) = a := ⟨_, rfl⟩
      obtain ⟨cc, hcc⟩ : ∃ a, cap - 1 = a := ⟨_, rfl⟩
      rw [hac, hcc] at hst ⊢
      have HST := Lib.hid (hst.below HB5.out)
      have HSZA : Hid (∀ x ∈ args, x ≠ [] ∧ x.length ≤ 65536) := Lib.hid (fun x hx => HSZ.out x (List.mem_cons_of_mem _ hx))
      have hk00 : w.heap.size < w.heap.size + 1 := by omega
      have HEV5 := Lib.hid (HEV.out.below HB5.out)
      have HP5 := Lib.hid (HP.out.below HB5.out)
      clear hac hcc hst hcap hcap1 hcm hwb c0 HCC HSZ HEV HP m0 m1 m2 m3 m4 m5 HWL HZ0 HC0 HB0
      have HE : Hid (readW K args = E) := Lib.hid (by rw [← HK.out]; exact HE0.out)
      have hKc : K = 0 ∨ K = 1 ∨ K = 2 ∨ K = 3 ∨ K = 4 ∨ K = 5 ∨ K = 6 ∨ K = 7 ∨ K = 8 := by have := HKL.out; omega
      clear HE0 HK HKL
      rcases hKc with rfl | rfl | rfl | rfl | rfl | rfl | rfl | rfl | rfl
      · have hlk0 : (Instr.lookup MT (.map (some MB)) (.int .i64 0) true).run Tryd.prog X5 = .ok (.tuple #[.int .i64 0, .bool false]) X5 := hlk
        clear hlk
        have hE' : E = .error 3 := by rw [← HE.out]; exact read_bad rfl
        have hz := HZ5.out
        have z0 := hz.c 0 _ rfl
        have z1 := hz.c 1 _ rfl
        have z2 := hz.c 2 _ rfl
        have z3 := hz.c 3 _ rfl
        have z4 := hz.c 4 _ rfl
        have zf := hz.fz
        have HBB := Lib.hid (below5 HB5.out (Nat.le_refl _) (.int .i64 0) (.int .i64 0) (.int .i64 0) (.slice none 0 0) (.slice none 0 0))
        clear hz
        go_wp2_with fail
        refine bodyPost_ret (v := .tuple #[.agg #[.int .i64 0, .int .i64 0, .int .i64 0, .slice none 0 0, .slice none 0 0], .int .i64 3]) (by simp [results, Tryd.results17, go_sem, z0, z1, z2, z3, z4]) rfl ?_
        rw [hE']
        exact ⟨HBB.out, rfl, by decide⟩
      · have hlk1 : (Instr.lookup MT (.map (some MB)) (.int .i64 1) true).run Tryd.prog X5 = .ok (.tuple #[.int .i64 1, .bool true]) X5 := hlk
        clear hlk
        by_cases hn1 : n = 1
        · subst hn1
          have hok := read_nums (k := 1) (args := args) (by rw [HN.out]; rfl) (by decide)
          rw [HE.out] at hok
          have HOK := Lib.hid hok
          clear hok
          have hlc := HC5.out.lt
          go_wp2_with fail
          have hY : Below X5.heap.size X5 (X5.alloc (.cells #[.int .i64 16777216] 2)) := (Below.refl _ _).alloc (Nat.le_refl _) _
          have hLm : LimAt (X5.alloc (.cells #[.int .i64 16777216] 2)) (.slice (some ⟨X5.heap.size, 0, none⟩) 1 1) false := ⟨X5.heap.size, by simp, (Blk.made (T := 2) (cs := #[.int .i64 16777216]) X5).c 0 _ rfl, rfl⟩
          obtain ⟨Y, hYe⟩ : ∃ Y, X5.alloc (.cells #[.int .i64 16777216] 2) = Y := ⟨_, rfl⟩
          rw [hYe] at hY hLm ⊢
          have hb5Y := HB5.out.trans (hY.mono HB5.out.size)
          refine (numbers_any _ _ false args _ (HST.out.below hY) hLm HSZA.out (by rw [HN.out]; omega) (HEV5.out.below hY) (HP5.out.below hY)).mono ?_; rintro e w6 ⟨hb6, v, rfl, hown⟩
          have hc6 := (HC5.out.below hY HC5.out.lt).below hb6 (Nat.lt_of_lt_of_le HC5.out.lt hY.size)
          have hz6 := (HZ5.out.below hY HZ5.out.lt).below hb6 (Nat.lt_of_lt_of_le HZ5.out.lt hY.size)
          have hb6w := hb5Y.trans (hb6.mono hb5Y.size)
          have hlY1 : w.heap.size + 1 < Y.heap.size := Nat.lt_of_lt_of_le HC5.out.lt hY.size
          obtain ⟨q, hq⟩ : ∃ q, worstF false 0 args 0 = q := ⟨_, rfl⟩
          have hok := HOK.out
          rw [show (1 == 8) = false from rfl, hq] at hok
          rw [hq]
          have HOK2 := Lib.hid hok
          clear HOK hok hq hLm hYe hY hb6 hb5Y hlk1
          unfold Ints at hown
          have HOWN := Lib.hid hown
          obtain ⟨lo, lc, rfl, hlo⟩ := own_slice hown
          by_cases hq0 : q = 0
          · subst hq0
            have hE' : E = .ok (cmdOf 1 (numsF false 0 args)) := by have h := HOK2.out; rw [if_neg (by simp)] at h; exact h
            obtain ⟨a, ha⟩ : ∃ a, args = [a] := by
              have h := HN.out
              match args, h with
              | [a], _ => exact ⟨a, rfl⟩
            rw [ha] at hE' hown HOWN hlo ⊢
            obtain ⟨x, hx⟩ : ∃ x, nOf a (lim false 0) = x := ⟨_, rfl⟩
            have hE' : E = .ok ⟨1, x, 0, [], []⟩ := by rw [hE', ← hx]; rfl
            obtain ⟨lg, rfl, -, hlg, -, -⟩ := hlo (by simp [numsF])
            have l0 : w6.cell? ⟨lg, 0, none⟩ = some (.int .i64 x) := by
              have h := World.ownsRow.cells HOWN.out (g := lg) rfl 0 (.int .i64 x) (by rw [← hx]; rfl)
              simpa [Addr.add] using h
            rw [show (numsF false 0 [a]).length = 1 from rfl] at *
            have r4 := hc6.c 1 _ rfl
            have rf := hc6.fz
            have q0 := hc6.c 0 _ rfl
            have HCX := Lib.hid (hc6.set_ 1 (.int .i64 x) _ rfl)
            have HZX := Lib.hid (hz6.far (p := ⟨w.heap.size + 1, 1, none⟩) (show w.heap.size ≠ w.heap.size + 1 by omega) (.int .i64 x))
            have HBX := Lib.hid (hb6w.setCell (p := ⟨w.heap.size + 1, 1, none⟩) (by show w.heap.size ≤ w.heap.size + 1; omega) (.int .i64 x))
            clear hown HOWN hlo ha hx hc6 hz6 hb6w
            have q0 := HCX.out.c 0 _ rfl
            have q1 := HCX.out.c 1 _ rfl
            have q2 := HCX.out.c 2 _ rfl
            have q3 := HCX.out.c 3 _ rfl
            have q4 := HCX.out.c 4 _ rfl
            have z0 := HZX.out.c 0 _ rfl
            have z1 := HZX.out.c 1 _ rfl
            have z2 := HZX.out.c 2 _ rfl
            have z3 := HZX.out.c 3 _ rfl
            have z4 := HZX.out.c 4 _ rfl
            have zf := HZX.out.fz
            have HZF := Lib.hid (blk5 HZX.out (.int .i64 1) (.int .i64 x) (.int .i64 0) (.slice none 0 0) (.slice none 0 0))
            have HBF := Lib.hid (below5 HBX.out (Nat.le_refl _) (.int .i64 1) (.int .i64 x) (.int .i64 0) (.slice none 0 0) (.slice none 0 0))
            go_wp2_with fail
            obtain ⟨V, hV⟩ : ∃ V, ((((((w6.setCell ⟨w.heap.size + 1, 1, none⟩ (.int .i64 x)).setCell ⟨w.heap.size, 0, none⟩ (.int .i64 1)).setCell ⟨w.heap.size, 1, none⟩ (.int .i64 x)).setCell ⟨w.heap.size, 2, none⟩ (.int .i64 0)).setCell ⟨w.heap.size, 3, none⟩ (.slice none 0 0)).setCell ⟨w.heap.size, 4, none⟩ (.slice none 0 0)) = V := ⟨_, rfl⟩
            rw [hV] at HZF HBF ⊢
            have y0 := HZF.out.c 0 _ rfl
            have y1 := HZF.out.c 1 _ rfl
            have y2 := HZF.out.c 2 _ rfl
            have y3 := HZF.out.c 3 _ rfl
            have y4 := HZF.out.c 4 _ rfl
            clear hV q0 q1 q2 q3 q4 z0 z1 z2 z3 z4 zf
            refine bodyPost_ret (v := .tuple #[.agg #[.int .i64 1, (.int .i64 x), (.int .i64 0), (.slice none 0 0), (.slice none 0 0)], .int .i64 0]) (by simp [results, Tryd.results17, go_sem, y0, y1, y2, y3, y4]) rfl ?_
            rw [hE']
            exact ⟨HBF.out, _, _, _, _, _, _, rfl, World.ownsRow_nil _ _ _ _, World.ownsRow_nil _ _ _ _⟩
          · have hE' : E = .error q := by have h := HOK2.out; rw [if_pos hq0] at h; exact h
            have hqb : (q != 0) = true := by simpa using hq0
            have q0 := hc6.c 0 _ rfl
            have hz := hz6
            have z0 := hz.c 0 _ rfl
            have z1 := hz.c 1 _ rfl
            have z2 := hz.c 2 _ rfl
            have z3 := hz.c 3 _ rfl
            have z4 := hz.c 4 _ rfl
            have zf := hz.fz
            have HBB := Lib.hid (below5 hb6w (Nat.le_refl _) (.int .i64 0) (.int .i64 0) (.int .i64 0) (.slice none 0 0) (.slice none 0 0))
            clear hz
            go_wp2_with fail
            refine bodyPost_ret (v := .tuple #[.agg #[.int .i64 0, .int .i64 0, .int .i64 0, .slice none 0 0, .slice none 0 0], .int .i64 q]) (by simp [results, Tryd.results17, go_sem, z0, z1, z2, z3, z4]) rfl ?_
            rw [hE']
            exact ⟨HBB.out, rfl, by exact hq0⟩
        · have hE' : E = .error 3 := by rw [← HE.out]; exact read_bad (by rw [HN.out]; simp [countOk, hn1])
          have hne : (((1 : Int) != (n : Int))) = true := by rw [bne_iff_ne]; omega
          have hz := HZ5.out
          have z0 := hz.c 0 _ rfl
          have z1 := hz.c 1 _ rfl
          have z2 := hz.c 2 _ rfl
          have z3 := hz.c 3 _ rfl
          have z4 := hz.c 4 _ rfl
          have zf := hz.fz
          have HBB := Lib.hid (below5 HB5.out (Nat.le_refl _) (.int .i64 0) (.int .i64 0) (.int .i64 0) (.slice none 0 0) (.slice none 0 0))
          clear hz
          go_wp2_with fail
          refine bodyPost_ret (v := .tuple #[.agg #[.int .i64 0, .int .i64 0, .int .i64 0, .slice none 0 0, .slice none 0 0], .int .i64 3]) (by simp [results, Tryd.results17, go_sem, z0, z1, z2, z3, z4]) rfl ?_
          rw [hE']
          exact ⟨HBB.out, rfl, by decide⟩
      · have hlk2 : (Instr.lookup MT (.map (some MB)) (.int .i64 2) true).run Tryd.prog X5 = .ok (.tuple #[.int .i64 0, .bool false]) X5 := hlk
        clear hlk
        go_wp2_with fail
        refine (bytes_any _ args _ HST.out (fun x hx => (HSZA.out x hx).2) (by rw [HN.out]; omega)).mono ?_; rintro e w6 ⟨hb6, hm⟩
        have HZX := Lib.hid (HZ5.out.below hb6 HZ5.out.lt)
        have hc6 := HC5.out.below hb6 HC5.out.lt
        have hb6w := HB5.out.trans (hb6.mono HB5.out.size)
        have hlc := HC5.out.lt
        have HE2 := Lib.hid (read_input.symm.trans HE.out)
        cases hbr : bytesR args with
        | none =>
          rw [hbr] at hm
          obtain rfl := hm
          have hE' : E = .error 3 := by rw [← HE2.out, hbr]
          have r4 := hc6.c 4 _ rfl
          have rf := hc6.fz
          have hz7 := HZX.out.far (p := ⟨w.heap.size + 1, 4, none⟩) (show w.heap.size ≠ w.heap.size + 1 by omega) (.slice none 0 0)
          have hb7 := hb6w.setCell (p := ⟨w.heap.size + 1, 4, none⟩) (by show w.heap.size ≤ w.heap.size + 1; omega) (.slice none 0 0)
          clear hbr HE2 hb6
          have hz := hz7
          have z0 := hz.c 0 _ rfl
          have z1 := hz.c 1 _ rfl
          have z2 := hz.c 2 _ rfl
          have z3 := hz.c 3 _ rfl
          have z4 := hz.c 4 _ rfl
          have zf := hz.fz
          have HBB := Lib.hid (below5 hb7 (Nat.le_refl _) (.int .i64 0) (.int .i64 0) (.int .i64 0) (.slice none 0 0) (.slice none 0 0))
          clear hz
          go_wp2_with fail
          refine bodyPost_ret (v := .tuple #[.agg #[.int .i64 0, .int .i64 0, .int .i64 0, .slice none 0 0, .slice none 0 0], .int .i64 3]) (by simp [results, Tryd.results17, go_sem, z0, z1, z2, z3, z4]) rfl ?_
          rw [hE']
          exact ⟨HBB.out, rfl, by decide⟩
        | some b =>
          rw [hbr] at hm
          obtain ⟨v, rfl, hown⟩ := hm
          have hE' : E = .ok ⟨2, 0, 0, [], b⟩ := by rw [← HE2.out, hbr]
          unfold Byts at hown
          obtain ⟨bo, bc, rfl, -⟩ := own_slice hown
          obtain ⟨bn, hbn⟩ : ∃ m, b.length = m := ⟨_, rfl⟩
          rw [hbn] at hown ⊢
          have HBN := Lib.hid hbn
          have r4 := hc6.c 4 _ rfl
          have rf := hc6.fz
          have HCX := Lib.hid (hc6.set_ 4 (.slice bo bn bc) _ rfl)
          have HZX' := Lib.hid (HZX.out.far (p := ⟨w.heap.size + 1, 4, none⟩) (show w.heap.size ≠ w.heap.size + 1 by omega) (.slice bo bn bc))
          have HBX := Lib.hid (hb6w.setCell (p := ⟨w.heap.size + 1, 4, none⟩) (by show w.heap.size ≤ w.heap.size + 1; omega) (.slice bo bn bc))
          have HOW := Lib.hid (own_set_at hown (k := w.heap.size + 1) HC5.out.lt 4 (.slice bo bn bc))
          have hle := HB5.out.size
          have hlz := HZ5.out.lt
          clear hbr HE2 hb6 hbn hown hc6 HZX hb6w
          have HZX := HZX'
          clear HZX'
          have q0 := HCX.out.c 0 _ rfl
          have q1 := HCX.out.c 1 _ rfl
          have q2 := HCX.out.c 2 _ rfl
          have q3 := HCX.out.c 3 _ rfl
          have q4 := HCX.out.c 4 _ rfl
          have z0 := HZX.out.c 0 _ rfl
          have z1 := HZX.out.c 1 _ rfl
          have z2 := HZX.out.c 2 _ rfl
          have z3 := HZX.out.c 3 _ rfl
          have z4 := HZX.out.c 4 _ rfl
          have zf := HZX.out.fz
          have HZF := Lib.hid (blk5 HZX.out (.int .i64 2) (.int .i64 0) (.int .i64 0) (.slice none 0 0) (.slice bo bn bc))
          have HBF := Lib.hid (below5 HBX.out (Nat.le_refl _) (.int .i64 2) (.int .i64 0) (.int .i64 0) (.slice none 0 0) (.slice bo bn bc))
          have HOF := Lib.hid (own5 HOW.out hlz (.int .i64 2) (.int .i64 0) (.int .i64 0) (.slice none 0 0) (.slice bo bn bc))
          go_wp2_with fail
          obtain ⟨V, hV⟩ : ∃ V, ((((((w6.setCell ⟨w.heap.size + 1, 4, none⟩ (.slice bo bn bc)).setCell ⟨w.heap.size, 0, none⟩ (.int .i64 2)).setCell ⟨w.heap.size, 1, none⟩ (.int .i64 0)).setCell ⟨w.heap.size, 2, none⟩ (.int .i64 0)).setCell ⟨w.heap.size, 3, none⟩ (.slice none 0 0)).setCell ⟨w.heap.size, 4, none⟩ (.slice bo bn bc)) = V := ⟨_, rfl⟩
          rw [hV] at HZF HBF HOF ⊢
          have y0 := HZF.out.c 0 _ rfl
          have y1 := HZF.out.c 1 _ rfl
          have y2 := HZF.out.c 2 _ rfl
          have y3 := HZF.out.c 3 _ rfl
          have y4 := HZF.out.c 4 _ rfl
          clear hV q0 q1 q2 q3 q4 z0 z1 z2 z3 z4 zf
          refine bodyPost_ret (v := .tuple #[.agg #[.int .i64 2, (.int .i64 0), (.int .i64 0), (.slice none 0 0), (.slice bo bn bc)], .int .i64 0]) (by simp [results, Tryd.results17, go_sem, y0, y1, y2, y3, y4]) rfl ?_
          rw [hE']
          exact ⟨HBF.out, _, _, _, _, _, _, rfl, World.ownsRow_nil _ _ _ _, by unfold Byts; rw [HBN.out]; exact own_mono HOF.out hle⟩
      · have hlk3 : (Instr.lookup MT (.map (some MB)) (.int .i64 3) true).run Tryd.prog X5 = .ok (.tuple #[.int .i64 0, .bool false]) X5 := hlk
        clear hlk
        have hok := read_nums (k := 3) (args := args) (by rw [HN.out]; rfl) (by decide)
        rw [HE.out] at hok
        have HOK := Lib.hid hok
        clear hok
        have hlc := HC5.out.lt
        go_wp2_with fail
        have hY : Below X5.heap.size X5 (X5.alloc (.cells #[.int .i64 16777216] 2)) := (Below.refl _ _).alloc (Nat.le_refl _) _
        have hLm : LimAt (X5.alloc (.cells #[.int .i64 16777216] 2)) (.slice (some ⟨X5.heap.size, 0, none⟩) 1 1) false := ⟨X5.heap.size, by simp, (Blk.made (T := 2) (cs := #[.int .i64 16777216]) X5).c 0 _ rfl, rfl⟩
        obtain ⟨Y, hYe⟩ : ∃ Y, X5.alloc (.cells #[.int .i64 16777216] 2) = Y := ⟨_, rfl⟩
        rw [hYe] at hY hLm ⊢
        have hb5Y := HB5.out.trans (hY.mono HB5.out.size)
        refine (numbers_any _ _ false args _ (HST.out.below hY) hLm HSZA.out (by rw [HN.out]; omega) (HEV5.out.below hY) (HP5.out.below hY)).mono ?_; rintro e w6 ⟨hb6, v, rfl, hown⟩
        have hc6 := (HC5.out.below hY HC5.out.lt).below hb6 (Nat.lt_of_lt_of_le HC5.out.lt hY.size)
        have hz6 := (HZ5.out.below hY HZ5.out.lt).below hb6 (Nat.lt_of_lt_of_le HZ5.out.lt hY.size)
        have hb6w := hb5Y.trans (hb6.mono hb5Y.size)
        have hlY1 : w.heap.size + 1 < Y.heap.size := Nat.lt_of_lt_of_le HC5.out.lt hY.size
        obtain ⟨q, hq⟩ : ∃ q, worstF false 0 args 0 = q := ⟨_, rfl⟩
        have hok := HOK.out
        rw [show (3 == 8) = false from rfl, hq] at hok
        rw [hq]
        have HOK2 := Lib.hid hok
        clear HOK hok hq hLm hYe hY hb6 hb5Y hlk3
        unfold Ints at hown
        have HOWN := Lib.hid hown
        obtain ⟨lo, lc, rfl, hlo⟩ := own_slice hown
        by_cases hq0 : q = 0
        · subst hq0
          have hE' : E = .ok (cmdOf 3 (numsF false 0 args)) := by have h := HOK2.out; rw [if_neg (by simp)] at h; exact h
          have hE' : E = .ok ⟨3, 0, 0, numsF false 0 args, []⟩ := by rw [hE']; rfl
          obtain ⟨nl, hnl⟩ : ∃ m, (numsF false 0 args).length = m := ⟨_, rfl⟩
          rw [hnl] at HOWN hlo ⊢
          have HNL := Lib.hid hnl
          have q0 := hc6.c 0 _ rfl
          have r4 := hc6.c 3 _ rfl
          have rf := hc6.fz
          have HCX := Lib.hid (hc6.set_ 3 (.slice lo nl lc) _ rfl)
          have HZX := Lib.hid (hz6.far (p := ⟨w.heap.size + 1, 3, none⟩) (show w.heap.size ≠ w.heap.size + 1 by omega) (.slice lo nl lc))
          have HBX := Lib.hid (hb6w.setCell (p := ⟨w.heap.size + 1, 3, none⟩) (by show w.heap.size ≤ w.heap.size + 1; omega) (.slice lo nl lc))
          have HOW := Lib.hid (own_set_at HOWN.out (k := w.heap.size + 1) hlY1 3 (.slice lo nl lc))
          have hle : w.heap.size ≤ Y.heap.size := by omega
          have hlz : w.heap.size < Y.heap.size := by omega
          clear hown HOWN hlo hnl hc6 hz6 hb6w
          have q0 := HCX.out.c 0 _ rfl
          have q1 := HCX.out.c 1 _ rfl
          have q2 := HCX.out.c 2 _ rfl
          have q3 := HCX.out.c 3 _ rfl
          have q4 := HCX.out.c 4 _ rfl
          have z0 := HZX.out.c 0 _ rfl
          have z1 := HZX.out.c 1 _ rfl
          have z2 := HZX.out.c 2 _ rfl
          have z3 := HZX.out.c 3 _ rfl
          have z4 := HZX.out.c 4 _ rfl
          have zf := HZX.out.fz
          have HZF := Lib.hid (blk5 HZX.out (.int .i64 3) (.int .i64 0) (.int .i64 0) (.slice lo nl lc) (.slice none 0 0))
          have HBF := Lib.hid (below5 HBX.out (Nat.le_refl _) (.int .i64 3) (.int .i64 0) (.int .i64 0) (.slice lo nl lc) (.slice none 0 0))
          have HOF := Lib.hid (own5 HOW.out hlz (.int .i64 3) (.int .i64 0) (.int .i64 0) (.slice lo nl lc) (.slice none 0 0))
          go_wp2_with fail
          obtain ⟨V, hV⟩ : ∃ V, ((((((w6.setCell ⟨w.heap.size + 1, 3, none⟩ (.slice lo nl lc)).setCell ⟨w.heap.size, 0, none⟩ (.int .i64 3)).setCell ⟨w.heap.size, 1, none⟩ (.int .i64 0)).setCell ⟨w.heap.size, 2, none⟩ (.int .i64 0)).setCell ⟨w.heap.size, 3, none⟩ (.slice lo nl lc)).setCell ⟨w.heap.size, 4, none⟩ (.slice none 0 0)) = V := ⟨_, rfl⟩
          rw [hV] at HZF HBF HOF ⊢
          have y0 := HZF.out.c 0 _ rfl
          have y1 := HZF.out.c 1 _ rfl
          have y2 := HZF.out.c 2 _ rfl
          have y3 := HZF.out.c 3 _ rfl
          have y4 := HZF.out.c 4 _ rfl
          clear hV q0 q1 q2 q3 q4 z0 z1 z2 z3 z4 zf
          refine bodyPost_ret (v := .tuple #[.agg #[.int .i64 3, (.int .i64 0), (.int .i64 0), (.slice lo nl lc), (.slice none 0 0)], .int .i64 0]) (by simp [results, Tryd.results17, go_sem, y0, y1, y2, y3, y4]) rfl ?_
          rw [hE']
          exact ⟨HBF.out, _, _, _, _, _, _, rfl, by unfold Ints; rw [HNL.out]; exact own_mono HOF.out hle, World.ownsRow_nil _ _ _ _⟩
        · have hE' : E = .error q := by have h := HOK2.out; rw [if_pos hq0] at h; exact h
          have hqb : (q != 0) = true := by simpa using hq0
          have q0 := hc6.c 0 _ rfl
          have hz := hz6
          have z0 := hz.c 0 _ rfl
          have z1 := hz.c 1 _ rfl
          have z2 := hz.c 2 _ rfl
          have z3 := hz.c 3 _ rfl
          have z4 := hz.c 4 _ rfl
          have zf := hz.fz
          have HBB := Lib.hid (below5 hb6w (Nat.le_refl _) (.int .i64 0) (.int .i64 0) (.int .i64 0) (.slice none 0 0) (.slice none 0 0))
          clear hz
          go_wp2_with fail
          refine bodyPost_ret (v := .tuple #[.agg #[.int .i64 0, .int .i64 0, .int .i64 0, .slice none 0 0, .slice none 0 0], .int .i64 q]) (by simp [results, Tryd.results17, go_sem, z0, z1, z2, z3, z4]) rfl ?_
          rw [hE']
          exact ⟨HBB.out, rfl, by exact hq0⟩
      · have hlk4 : (Instr.lookup MT (.map (some MB)) (.int .i64 4) true).run Tryd.prog X5 = .ok (.tuple #[.int .i64 0, .bool false]) X5 := hlk
        clear hlk
        have hok := read_nums (k := 4) (args := args) (by rw [HN.out]; rfl) (by decide)
        rw [HE.out] at hok
        have HOK := Lib.hid hok
        clear hok
        have hlc := HC5.out.lt
        go_wp2_with fail
        have hY : Below X5.heap.size X5 (X5.alloc (.cells #[.int .i64 16777216] 2)) := (Below.refl _ _).alloc (Nat.le_refl _) _
        have hLm : LimAt (X5.alloc (.cells #[.int .i64 16777216] 2)) (.slice (some ⟨X5.heap.size, 0, none⟩) 1 1) false := ⟨X5.heap.size, by simp, (Blk.made (T := 2) (cs := #[.int .i64 16777216]) X5).c 0 _ rfl, rfl⟩
        obtain ⟨Y, hYe⟩ : ∃ Y, X5.alloc (.cells #[.int .i64 16777216] 2) = Y := ⟨_, rfl⟩
        rw [hYe] at hY hLm ⊢
        have hb5Y := HB5.out.trans (hY.mono HB5.out.size)
        refine (numbers_any _ _ false args _ (HST.out.below hY) hLm HSZA.out (by rw [HN.out]; omega) (HEV5.out.below hY) (HP5.out.below hY)).mono ?_; rintro e w6 ⟨hb6, v, rfl, hown⟩
        have hc6 := (HC5.out.below hY HC5.out.lt).below hb6 (Nat.lt_of_lt_of_le HC5.out.lt hY.size)
        have hz6 := (HZ5.out.below hY HZ5.out.lt).below hb6 (Nat.lt_of_lt_of_le HZ5.out.lt hY.size)
        have hb6w := hb5Y.trans (hb6.mono hb5Y.size)
        have hlY1 : w.heap.size + 1 < Y.heap.size := Nat.lt_of_lt_of_le HC5.out.lt hY.size
        obtain ⟨q, hq⟩ : ∃ q, worstF false 0 args 0 = q := ⟨_, rfl⟩
        have hok := HOK.out
        rw [show (4 == 8) = false from rfl, hq] at hok
        rw [hq]
        have HOK2 := Lib.hid hok
        clear HOK hok hq hLm hYe hY hb6 hb5Y hlk4
        unfold Ints at hown
        have HOWN := Lib.hid hown
        obtain ⟨lo, lc, rfl, hlo⟩ := own_slice hown
        by_cases hq0 : q = 0
        · subst hq0
          have hE' : E = .ok (cmdOf 4 (numsF false 0 args)) := by have h := HOK2.out; rw [if_neg (by simp)] at h; exact h
          have hE' : E = .ok ⟨4, 0, 0, numsF false 0 args, []⟩ := by rw [hE']; rfl
          obtain ⟨nl, hnl⟩ : ∃ m, (numsF false 0 args).length = m := ⟨_, rfl⟩
          rw [hnl] at HOWN hlo ⊢
          have HNL := Lib.hid hnl
          have q0 := hc6.c 0 _ rfl
          have r4 := hc6.c 3 _ rfl
          have rf := hc6.fz
          have HCX := Lib.hid (hc6.set_ 3 (.slice lo nl lc) _ rfl)
          have HZX := Lib.hid (hz6.far (p := ⟨w.heap.size + 1, 3, none⟩) (show w.heap.size ≠ w.heap.size + 1 by omega) (.slice lo nl lc))
          have HBX := Lib.hid (hb6w.setCell (p := ⟨w.heap.size + 1, 3, none⟩) (by show w.heap.size ≤ w.heap.size + 1; omega) (.slice lo nl lc))
          have HOW := Lib.hid (own_set_at HOWN.out (k := w.heap.size + 1) hlY1 3 (.slice lo nl lc))
          have hle : w.heap.size ≤ Y.heap.size := by omega
          have hlz : w.heap.size < Y.heap.size := by omega
          clear hown HOWN hlo hnl hc6 hz6 hb6w
          have q0 := HCX.out.c 0 _ rfl
          have q1 := HCX.out.c 1 _ rfl
          have q2 := HCX.out.c 2 _ rfl
          have q3 := HCX.out.c 3 _ rfl
          have q4 := HCX.out.c 4 _ rfl
          have z0 := HZX.out.c 0 _ rfl
          have z1 := HZX.out.c 1 _ rfl
          have z2 := HZX.out.c 2 _ rfl
          have z3 := HZX.out.c 3 _ rfl
          have z4 := HZX.out.c 4 _ rfl
          have zf := HZX.out.fz
          have HZF := Lib.hid (blk5 HZX.out (.int .i64 4) (.int .i64 0) (.int .i64 0) (.slice lo nl lc) (.slice none 0 0))
          have HBF := Lib.hid (below5 HBX.out (Nat.le_refl _) (.int .i64 4) (.int .i64 0) (.int .i64 0) (.slice lo nl lc) (.slice none 0 0))
          have HOF := Lib.hid (own5 HOW.out hlz (.int .i64 4) (.int .i64 0) (.int .i64 0) (.slice lo nl lc) (.slice none 0 0))
          go_wp2_with fail
          obtain ⟨V, hV⟩ : ∃ V, ((((((w6.setCell ⟨w.heap.size + 1, 3, none⟩ (.slice lo nl lc)).setCell ⟨w.heap.size, 0, none⟩ (.int .i64 4)).setCell ⟨w.heap.size, 1, none⟩ (.int .i64 0)).setCell ⟨w.heap.size, 2, none⟩ (.int .i64 0)).setCell ⟨w.heap.size, 3, none⟩ (.slice lo nl lc)).setCell ⟨w.heap.size, 4, none⟩ (.slice none 0 0)) = V := ⟨_, rfl⟩
          rw [hV] at HZF HBF HOF ⊢
          have y0 := HZF.out.c 0 _ rfl
          have y1 := HZF.out.c 1 _ rfl
          have y2 := HZF.out.c 2 _ rfl
          have y3 := HZF.out.c 3 _ rfl
          have y4 := HZF.out.c 4 _ rfl
          clear hV q0 q1 q2 q3 q4 z0 z1 z2 z3 z4 zf
          refine bodyPost_ret (v := .tuple #[.agg #[.int .i64 4, (.int .i64 0), (.int .i64 0), (.slice lo nl lc), (.slice none 0 0)], .int .i64 0]) (by simp [results, Tryd.results17, go_sem, y0, y1, y2, y3, y4]) rfl ?_
          rw [hE']
          exact ⟨HBF.out, _, _, _, _, _, _, rfl, by unfold Ints; rw [HNL.out]; exact own_mono HOF.out hle, World.ownsRow_nil _ _ _ _⟩
        · have hE' : E = .error q := by have h := HOK2.out; rw [if_pos hq0] at h; exact h
          have hqb : (q != 0) = true := by simpa using hq0
          have q0 := hc6.c 0 _ rfl
          have hz := hz6
          have z0 := hz.c 0 _ rfl
          have z1 := hz.c 1 _ rfl
          have z2 := hz.c 2 _ rfl
          have z3 := hz.c 3 _ rfl
          have z4 := hz.c 4 _ rfl
          have zf := hz.fz
          have HBB := Lib.hid (below5 hb6w (Nat.le_refl _) (.int .i64 0) (.int .i64 0) (.int .i64 0) (.slice none 0 0) (.slice none 0 0))
          clear hz
          go_wp2_with fail
          refine bodyPost_ret (v := .tuple #[.agg #[.int .i64 0, .int .i64 0, .int .i64 0, .slice none 0 0, .slice none 0 0], .int .i64 q]) (by simp [results, Tryd.results17, go_sem, z0, z1, z2, z3, z4]) rfl ?_
          rw [hE']
          exact ⟨HBB.out, rfl, by exact hq0⟩
      · have hlk5 : (Instr.lookup MT (.map (some MB)) (.int .i64 5) true).run Tryd.prog X5 = .ok (.tuple #[.int .i64 1, .bool true]) X5 := hlk
        clear hlk
        by_cases hn1 : n = 1
        · subst hn1
          have hok := read_nums (k := 5) (args := args) (by rw [HN.out]; rfl) (by decide)
          rw [HE.out] at hok
          have HOK := Lib.hid hok
          clear hok
          have hlc := HC5.out.lt
          go_wp2_with fail
          have hY : Below X5.heap.size X5 (X5.alloc (.cells #[.int .i64 16777216] 2)) := (Below.refl _ _).alloc (Nat.le_refl _) _
          have hLm : LimAt (X5.alloc (.cells #[.int .i64 16777216] 2)) (.slice (some ⟨X5.heap.size, 0, none⟩) 1 1) false := ⟨X5.heap.size, by simp, (Blk.made (T := 2) (cs := #[.int .i64 16777216]) X5).c 0 _ rfl, rfl⟩
          obtain ⟨Y, hYe⟩ : ∃ Y, X5.alloc (.cells #[.int .i64 16777216] 2) = Y := ⟨_, rfl⟩
          rw [hYe] at hY hLm ⊢
          have hb5Y := HB5.out.trans (hY.mono HB5.out.size)
          refine (numbers_any _ _ false args _ (HST.out.below hY) hLm HSZA.out (by rw [HN.out]; omega) (HEV5.out.below hY) (HP5.out.below hY)).mono ?_; rintro e w6 ⟨hb6, v, rfl, hown⟩
          have hc6 := (HC5.out.below hY HC5.out.lt).below hb6 (Nat.lt_of_lt_of_le HC5.out.lt hY.size)
          have hz6 := (HZ5.out.below hY HZ5.out.lt).below hb6 (Nat.lt_of_lt_of_le HZ5.out.lt hY.size)
          have hb6w := hb5Y.trans (hb6.mono hb5Y.size)
          have hlY1 : w.heap.size + 1 < Y.heap.size := Nat.lt_of_lt_of_le HC5.out.lt hY.size
          obtain ⟨q, hq⟩ : ∃ q, worstF false 0 args 0 = q := ⟨_, rfl⟩
          have hok := HOK.out
          rw [show (5 == 8) = false from rfl, hq] at hok
          rw [hq]
          have HOK2 := Lib.hid hok
          clear HOK hok hq hLm hYe hY hb6 hb5Y hlk5
          unfold Ints at hown
          have HOWN := Lib.hid hown
          obtain ⟨lo, lc, rfl, hlo⟩ := own_slice hown
          by_cases hq0 : q = 0
          · subst hq0
            have hE' : E = .ok (cmdOf 5 (numsF false 0 args)) := by have h := HOK2.out; rw [if_neg (by simp)] at h; exact h
            obtain ⟨a, ha⟩ : ∃ a, args = [a] := by
              have h := HN.out
              match args, h with
              | [a], _ => exact ⟨a, rfl⟩
            rw [ha] at hE' hown HOWN hlo ⊢
            obtain ⟨x, hx⟩ : ∃ x, nOf a (lim false 0) = x := ⟨_, rfl⟩
            have hE' : E = .ok ⟨5, x, 0, [], []⟩ := by rw [hE', ← hx]; rfl
            obtain ⟨lg, rfl, -, hlg, -, -⟩ := hlo (by simp [numsF])
            have l0 : w6.cell? ⟨lg, 0, none⟩ = some (.int .i64 x) := by
              have h := World.ownsRow.cells HOWN.out (g := lg) rfl 0 (.int .i64 x) (by rw [← hx]; rfl)
              simpa [Addr.add] using h
            rw [show (numsF false 0 [a]).length = 1 from rfl] at *
            have r4 := hc6.c 1 _ rfl
            have rf := hc6.fz
            have q0 := hc6.c 0 _ rfl
            have HCX := Lib.hid (hc6.set_ 1 (.int .i64 x) _ rfl)
            have HZX := Lib.hid (hz6.far (p := ⟨w.heap.size + 1, 1, none⟩) (show w.heap.size ≠ w.heap.size + 1 by omega) (.int .i64 x))
            have HBX := Lib.hid (hb6w.setCell (p := ⟨w.heap.size + 1, 1, none⟩) (by show w.heap.size ≤ w.heap.size + 1; omega) (.int .i64 x))
            clear hown HOWN hlo ha hx hc6 hz6 hb6w
            have q0 := HCX.out.c 0 _ rfl
            have q1 := HCX.out.c 1 _ rfl
            have q2 := HCX.out.c 2 _ rfl
            have q3 := HCX.out.c 3 _ rfl
            have q4 := HCX.out.c 4 _ rfl
            have z0 := HZX.out.c 0 _ rfl
            have z1 := HZX.out.c 1 _ rfl
            have z2 := HZX.out.c 2 _ rfl
            have z3 := HZX.out.c 3 _ rfl
            have z4 := HZX.out.c 4 _ rfl
            have zf := HZX.out.fz
            have HZF := Lib.hid (blk5 HZX.out (.int .i64 5) (.int .i64 x) (.int .i64 0) (.slice none 0 0) (.slice none 0 0))
            have HBF := Lib.hid (below5 HBX.out (Nat.le_refl _) (.int .i64 5) (.int .i64 x) (.int .i64 0) (.slice none 0 0) (.slice none 0 0))
            go_wp2_with fail
            obtain ⟨V, hV⟩ : ∃ V, ((((((w6.setCell ⟨w.heap.size + 1, 1, none⟩ (.int .i64 x)).setCell ⟨w.heap.size, 0, none⟩ (.int .i64 5)).setCell ⟨w.heap.size, 1, none⟩ (.int .i64 x)).setCell ⟨w.heap.size, 2, none⟩ (.int .i64 0)).setCell ⟨w.heap.size, 3, none⟩ (.slice none 0 0)).setCell ⟨w.heap.size, 4, none⟩ (.slice none 0 0)) = V := ⟨_, rfl⟩
            rw [hV] at HZF HBF ⊢
            have y0 := HZF.out.c 0 _ rfl
            have y1 := HZF.out.c 1 _ rfl
            have y2 := HZF.out.c 2 _ rfl
            have y3 := HZF.out.c 3 _ rfl
            have y4 := HZF.out.c 4 _ rfl
            clear hV q0 q1 q2 q3 q4 z0 z1 z2 z3 z4 zf
            refine bodyPost_ret (v := .tuple #[.agg #[.int .i64 5, (.int .i64 x), (.int .i64 0), (.slice none 0 0), (.slice none 0 0)], .int .i64 0]) (by simp [results, Tryd.results17, go_sem, y0, y1, y2, y3, y4]) rfl ?_
            rw [hE']
            exact ⟨HBF.out, _, _, _, _, _, _, rfl, World.ownsRow_nil _ _ _ _, World.ownsRow_nil _ _ _ _⟩
          · have hE' : E = .error q := by have h := HOK2.out; rw [if_pos hq0] at h; exact h
            have hqb : (q != 0) = true := by simpa using hq0
            have q0 := hc6.c 0 _ rfl
            have hz := hz6
            have z0 := hz.c 0 _ rfl
            have z1 := hz.c 1 _ rfl
            have z2 := hz.c 2 _ rfl
            have z3 := hz.c 3 _ rfl
            have z4 := hz.c 4 _ rfl
            have zf := hz.fz
            have HBB := Lib.hid (below5 hb6w (Nat.le_refl _) (.int .i64 0) (.int .i64 0) (.int .i64 0) (.slice none 0 0) (.slice none 0 0))
            clear hz
            go_wp2_with fail
            refine bodyPost_ret (v := .tuple #[.agg #[.int .i64 0, .int .i64 0, .int .i64 0, .slice none 0 0, .slice none 0 0], .int .i64 q]) (by simp [results, Tryd.results17, go_sem, z0, z1, z2, z3, z4]) rfl ?_
            rw [hE']
            exact ⟨HBB.out, rfl, by exact hq0⟩
        · have hE' : E = .error 3 := by rw [← HE.out]; exact read_bad (by rw [HN.out]; simp [countOk, hn1])
          have hne : (((1 : Int) != (n : Int))) = true := by rw [bne_iff_ne]; omega
          have hz := HZ5.out
          have z0 := hz.c 0 _ rfl
          have z1 := hz.c 1 _ rfl
          have z2 := hz.c 2 _ rfl
          have z3 := hz.c 3 _ rfl
          have z4 := hz.c 4 _ rfl
          have zf := hz.fz
          have HBB := Lib.hid (below5 HB5.out (Nat.le_refl _) (.int .i64 0) (.int .i64 0) (.int .i64 0) (.slice none 0 0) (.slice none 0 0))
          clear hz
          go_wp2_with fail
          refine bodyPost_ret (v := .tuple #[.agg #[.int .i64 0, .int .i64 0, .int .i64 0, .slice none 0 0, .slice none 0 0], .int .i64 3]) (by simp [results, Tryd.results17, go_sem, z0, z1, z2, z3, z4]) rfl ?_
          rw [hE']
          exact ⟨HBB.out, rfl, by decide⟩
      · have hlk6 : (Instr.lookup MT (.map (some MB)) (.int .i64 6) true).run Tryd.prog X5 = .ok (.tuple #[.int .i64 1, .bool true]) X5 := hlk
        clear hlk
        by_cases hn1 : n = 1
        · subst hn1
          have hok := read_nums (k := 6) (args := args) (by rw [HN.out]; rfl) (by decide)
          rw [HE.out] at hok
          have HOK := Lib.hid hok
          clear hok
          have hlc := HC5.out.lt
          go_wp2_with fail
          have hY : Below X5.heap.size X5 (X5.alloc (.cells #[.int .i64 16777216] 2)) := (Below.refl _ _).alloc (Nat.le_refl _) _
          have hLm : LimAt (X5.alloc (.cells #[.int .i64 16777216] 2)) (.slice (some ⟨X5.heap.size, 0, none⟩) 1 1) false := ⟨X5.heap.size, by simp, (Blk.made (T := 2) (cs := #[.int .i64 16777216]) X5).c 0 _ rfl, rfl⟩
          obtain ⟨Y, hYe⟩ : ∃ Y, X5.alloc (.cells #[.int .i64 16777216] 2) = Y := ⟨_, rfl⟩
          rw [hYe] at hY hLm ⊢
          have hb5Y := HB5.out.trans (hY.mono HB5.out.size)
          refine (numbers_any _ _ false args _ (HST.out.below hY) hLm HSZA.out (by rw [HN.out]; omega) (HEV5.out.below hY) (HP5.out.below hY)).mono ?_; rintro e w6 ⟨hb6, v, rfl, hown⟩
          have hc6 := (HC5.out.below hY HC5.out.lt).below hb6 (Nat.lt_of_lt_of_le HC5.out.lt hY.size)
          have hz6 := (HZ5.out.below hY HZ5.out.lt).below hb6 (Nat.lt_of_lt_of_le HZ5.out.lt hY.size)
          have hb6w := hb5Y.trans (hb6.mono hb5Y.size)
          have hlY1 : w.heap.size + 1 < Y.heap.size := Nat.lt_of_lt_of_le HC5.out.lt hY.size
          obtain ⟨q, hq⟩ : ∃ q, worstF false 0 args 0 = q := ⟨_, rfl⟩
          have hok := HOK.out
          rw [show (6 == 8) = false from rfl, hq] at hok
          rw [hq]
          have HOK2 := Lib.hid hok
          clear HOK hok hq hLm hYe hY hb6 hb5Y hlk6
          unfold Ints at hown
          have HOWN := Lib.hid hown
          obtain ⟨lo, lc, rfl, hlo⟩ := own_slice hown
          by_cases hq0 : q = 0
          · subst hq0
            have hE' : E = .ok (cmdOf 6 (numsF false 0 args)) := by have h := HOK2.out; rw [if_neg (by simp)] at h; exact h
            obtain ⟨a, ha⟩ : ∃ a, args = [a] := by
              have h := HN.out
              match args, h with
              | [a], _ => exact ⟨a, rfl⟩
            rw [ha] at hE' hown HOWN hlo ⊢
            obtain ⟨x, hx⟩ : ∃ x, nOf a (lim false 0) = x := ⟨_, rfl⟩
            have hE' : E = .ok ⟨6, x, 0, [], []⟩ := by rw [hE', ← hx]; rfl
            obtain ⟨lg, rfl, -, hlg, -, -⟩ := hlo (by simp [numsF])
            have l0 : w6.cell? ⟨lg, 0, none⟩ = some (.int .i64 x) := by
              have h := World.ownsRow.cells HOWN.out (g := lg) rfl 0 (.int .i64 x) (by rw [← hx]; rfl)
              simpa [Addr.add] using h
            rw [show (numsF false 0 [a]).length = 1 from rfl] at *
            have r4 := hc6.c 1 _ rfl
            have rf := hc6.fz
            have q0 := hc6.c 0 _ rfl
            have HCX := Lib.hid (hc6.set_ 1 (.int .i64 x) _ rfl)
            have HZX := Lib.hid (hz6.far (p := ⟨w.heap.size + 1, 1, none⟩) (show w.heap.size ≠ w.heap.size + 1 by omega) (.int .i64 x))
            have HBX := Lib.hid (hb6w.setCell (p := ⟨w.heap.size + 1, 1, none⟩) (by show w.heap.size ≤ w.heap.size + 1; omega) (.int .i64 x))
            clear hown HOWN hlo ha hx hc6 hz6 hb6w
            have q0 := HCX.out.c 0 _ rfl
            have q1 := HCX.out.c 1 _ rfl
            have q2 := HCX.out.c 2 _ rfl
            have q3 := HCX.out.c 3 _ rfl
            have q4 := HCX.out.c 4 _ rfl
            have z0 := HZX.out.c 0 _ rfl
            have z1 := HZX.out.c 1 _ rfl
            have z2 := HZX.out.c 2 _ rfl
            have z3 := HZX.out.c 3 _ rfl
            have z4 := HZX.out.c 4 _ rfl
            have zf := HZX.out.fz
            have HZF := Lib.hid (blk5 HZX.out (.int .i64 6) (.int .i64 x) (.int .i64 0) (.slice none 0 0) (.slice none 0 0))
            have HBF := Lib.hid (below5 HBX.out (Nat.le_refl _) (.int .i64 6) (.int .i64 x) (.int .i64 0) (.slice none 0 0) (.slice none 0 0))
            go_wp2_with fail
            obtain ⟨V, hV⟩ : ∃ V, ((((((w6.setCell ⟨w.heap.size + 1, 1, none⟩ (.int .i64 x)).setCell ⟨w.heap.size, 0, none⟩ (.int .i64 6)).setCell ⟨w.heap.size, 1, none⟩ (.int .i64 x)).setCell ⟨w.heap.size, 2, none⟩ (.int .i64 0)).setCell ⟨w.heap.size, 3, none⟩ (.slice none 0 0)).setCell ⟨w.heap.size, 4, none⟩ (.slice none 0 0)) = V := ⟨_, rfl⟩
            rw [hV] at HZF HBF ⊢
            have y0 := HZF.out.c 0 _ rfl
            have y1 := HZF.out.c 1 _ rfl
            have y2 := HZF.out.c 2 _ rfl
            have y3 := HZF.out.c 3 _ rfl
            have y4 := HZF.out.c 4 _ rfl
            clear hV q0 q1 q2 q3 q4 z0 z1 z2 z3 z4 zf
            refine bodyPost_ret (v := .tuple #[.agg #[.int .i64 6, (.int .i64 x), (.int .i64 0), (.slice none 0 0), (.slice none 0 0)], .int .i64 0]) (by simp [results, Tryd.results17, go_sem, y0, y1, y2, y3, y4]) rfl ?_
            rw [hE']
            exact ⟨HBF.out, _, _, _, _, _, _, rfl, World.ownsRow_nil _ _ _ _, World.ownsRow_nil _ _ _ _⟩
          · have hE' : E = .error q := by have h := HOK2.out; rw [if_pos hq0] at h; exact h
            have hqb : (q != 0) = true := by simpa using hq0
            have q0 := hc6.c 0 _ rfl
            have hz := hz6
            have z0 := hz.c 0 _ rfl
            have z1 := hz.c 1 _ rfl
            have z2 := hz.c 2 _ rfl
            have z3 := hz.c 3 _ rfl
            have z4 := hz.c 4 _ rfl
            have zf := hz.fz
            have HBB := Lib.hid (below5 hb6w (Nat.le_refl _) (.int .i64 0) (.int .i64 0) (.int .i64 0) (.slice none 0 0) (.slice none 0 0))
            clear hz
            go_wp2_with fail
            refine bodyPost_ret (v := .tuple #[.agg #[.int .i64 0, .int .i64 0, .int .i64 0, .slice none 0 0, .slice none 0 0], .int .i64 q]) (by simp [results, Tryd.results17, go_sem, z0, z1, z2, z3, z4]) rfl ?_
            rw [hE']
            exact ⟨HBB.out, rfl, by exact hq0⟩
        · have hE' : E = .error 3 := by rw [← HE.out]; exact read_bad (by rw [HN.out]; simp [countOk, hn1])
          have hne : (((1 : Int) != (n : Int))) = true := by rw [bne_iff_ne]; omega
          have hz := HZ5.out
          have z0 := hz.c 0 _ rfl
          have z1 := hz.c 1 _ rfl
          have z2 := hz.c 2 _ rfl
          have z3 := hz.c 3 _ rfl
          have z4 := hz.c 4 _ rfl
          have zf := hz.fz
          have HBB := Lib.hid (below5 HB5.out (Nat.le_refl _) (.int .i64 0) (.int .i64 0) (.int .i64 0) (.slice none 0 0) (.slice none 0 0))
          clear hz
          go_wp2_with fail
          refine bodyPost_ret (v := .tuple #[.agg #[.int .i64 0, .int .i64 0, .int .i64 0, .slice none 0 0, .slice none 0 0], .int .i64 3]) (by simp [results, Tryd.results17, go_sem, z0, z1, z2, z3, z4]) rfl ?_
          rw [hE']
          exact ⟨HBB.out, rfl, by decide⟩
      · have hlk7 : (Instr.lookup MT (.map (some MB)) (.int .i64 7) true).run Tryd.prog X5 = .ok (.tuple #[.int .i64 0, .bool true]) X5 := hlk
        clear hlk
        by_cases hn1 : n = 0
        · subst hn1
          have hok := read_nums (k := 7) (args := args) (by rw [HN.out]; rfl) (by decide)
          rw [HE.out] at hok
          have HOK := Lib.hid hok
          clear hok
          have hlc := HC5.out.lt
          go_wp2_with fail
          have hY : Below X5.heap.size X5 (X5.alloc (.cells #[.int .i64 16777216] 2)) := (Below.refl _ _).alloc (Nat.le_refl _) _
          have hLm : LimAt (X5.alloc (.cells #[.int .i64 16777216] 2)) (.slice (some ⟨X5.heap.size, 0, none⟩) 1 1) false := ⟨X5.heap.size, by simp, (Blk.made (T := 2) (cs := #[.int .i64 16777216]) X5).c 0 _ rfl, rfl⟩
          obtain ⟨Y, hYe⟩ : ∃ Y, X5.alloc (.cells #[.int .i64 16777216] 2) = Y := ⟨_, rfl⟩
          rw [hYe] at hY hLm ⊢
          have hb5Y := HB5.out.trans (hY.mono HB5.out.size)
          refine (numbers_any _ _ false args _ (HST.out.below hY) hLm HSZA.out (by rw [HN.out]; omega) (HEV5.out.below hY) (HP5.out.below hY)).mono ?_; rintro e w6 ⟨hb6, v, rfl, hown⟩
          have hc6 := (HC5.out.below hY HC5.out.lt).below hb6 (Nat.lt_of_lt_of_le HC5.out.lt hY.size)
          have hz6 := (HZ5.out.below hY HZ5.out.lt).below hb6 (Nat.lt_of_lt_of_le HZ5.out.lt hY.size)
          have hb6w := hb5Y.trans (hb6.mono hb5Y.size)
          have hlY1 : w.heap.size + 1 < Y.heap.size := Nat.lt_of_lt_of_le HC5.out.lt hY.size
          obtain ⟨q, hq⟩ : ∃ q, worstF false 0 args 0 = q := ⟨_, rfl⟩
          have hok := HOK.out
          rw [show (7 == 8) = false from rfl, hq] at hok
          rw [hq]
          have HOK2 := Lib.hid hok
          clear HOK hok hq hLm hYe hY hb6 hb5Y hlk7
          unfold Ints at hown
          have HOWN := Lib.hid hown
          obtain ⟨lo, lc, rfl, hlo⟩ := own_slice hown
          by_cases hq0 : q = 0
          · subst hq0
            have hE' : E = .ok (cmdOf 7 (numsF false 0 args)) := by have h := HOK2.out; rw [if_neg (by simp)] at h; exact h
            have ha : args = [] := List.eq_nil_of_length_eq_zero HN.out
            have hE' : E = .ok ⟨7, 0, 0, [], []⟩ := by rw [hE']; rfl
            have HCX := Lib.hid hc6
            have HZX := Lib.hid hz6
            have HBX := Lib.hid hb6w
            clear hown HOWN hlo hc6 hz6 hb6w ha
            have q0 := HCX.out.c 0 _ rfl
            have q1 := HCX.out.c 1 _ rfl
            have q2 := HCX.out.c 2 _ rfl
            have q3 := HCX.out.c 3 _ rfl
            have q4 := HCX.out.c 4 _ rfl
            have z0 := HZX.out.c 0 _ rfl
            have z1 := HZX.out.c 1 _ rfl
            have z2 := HZX.out.c 2 _ rfl
            have z3 := HZX.out.c 3 _ rfl
            have z4 := HZX.out.c 4 _ rfl
            have zf := HZX.out.fz
            have HZF := Lib.hid (blk5 HZX.out (.int .i64 7) (.int .i64 0) (.int .i64 0) (.slice none 0 0) (.slice none 0 0))
            have HBF := Lib.hid (below5 HBX.out (Nat.le_refl _) (.int .i64 7) (.int .i64 0) (.int .i64 0) (.slice none 0 0) (.slice none 0 0))
            go_wp2_with fail
            obtain ⟨V, hV⟩ : ∃ V, (((((w6.setCell ⟨w.heap.size, 0, none⟩ (.int .i64 7)).setCell ⟨w.heap.size, 1, none⟩ (.int .i64 0)).setCell ⟨w.heap.size, 2, none⟩ (.int .i64 0)).setCell ⟨w.heap.size, 3, none⟩ (.slice none 0 0)).setCell ⟨w.heap.size, 4, none⟩ (.slice none 0 0)) = V := ⟨_, rfl⟩
            rw [hV] at HZF HBF ⊢
            have y0 := HZF.out.c 0 _ rfl
            have y1 := HZF.out.c 1 _ rfl
            have y2 := HZF.out.c 2 _ rfl
            have y3 := HZF.out.c 3 _ rfl
            have y4 := HZF.out.c 4 _ rfl
            clear hV q0 q1 q2 q3 q4 z0 z1 z2 z3 z4 zf
            refine bodyPost_ret (v := .tuple #[.agg #[.int .i64 7, (.int .i64 0), (.int .i64 0), (.slice none 0 0), (.slice none 0 0)], .int .i64 0]) (by simp [results, Tryd.results17, go_sem, y0, y1, y2, y3, y4]) rfl ?_
            rw [hE']
            exact ⟨HBF.out, _, _, _, _, _, _, rfl, World.ownsRow_nil _ _ _ _, World.ownsRow_nil _ _ _ _⟩
          · have hE' : E = .error q := by have h := HOK2.out; rw [if_pos hq0] at h; exact h
            have hqb : (q != 0) = true := by simpa using hq0
            have q0 := hc6.c 0 _ rfl
            have hz := hz6
            have z0 := hz.c 0 _ rfl
            have z1 := hz.c 1 _ rfl
            have z2 := hz.c 2 _ rfl
            have z3 := hz.c 3 _ rfl
            have z4 := hz.c 4 _ rfl
            have zf := hz.fz
            have HBB := Lib.hid (below5 hb6w (Nat.le_refl _) (.int .i64 0) (.int .i64 0) (.int .i64 0) (.slice none 0 0) (.slice none 0 0))
            clear hz
            go_wp2_with fail
            refine bodyPost_ret (v := .tuple #[.agg #[.int .i64 0, .int .i64 0, .int .i64 0, .slice none 0 0, .slice none 0 0], .int .i64 q]) (by simp [results, Tryd.results17, go_sem, z0, z1, z2, z3, z4]) rfl ?_
            rw [hE']
            exact ⟨HBB.out, rfl, by exact hq0⟩
        · have hE' : E = .error 3 := by rw [← HE.out]; exact read_bad (by rw [HN.out]; simp [countOk, hn1])
          have hne : (((0 : Int) != (n : Int))) = true := by rw [bne_iff_ne]; omega
          have hz := HZ5.out
          have z0 := hz.c 0 _ rfl
          have z1 := hz.c 1 _ rfl
          have z2 := hz.c 2 _ rfl
          have z3 := hz.c 3 _ rfl
          have z4 := hz.c 4 _ rfl
          have zf := hz.fz
          have HBB := Lib.hid (below5 HB5.out (Nat.le_refl _) (.int .i64 0) (.int .i64 0) (.int .i64 0) (.slice none 0 0) (.slice none 0 0))
          clear hz
          go_wp2_with fail
          refine bodyPost_ret (v := .tuple #[.agg #[.int .i64 0, .int .i64 0, .int .i64 0, .slice none 0 0, .slice none 0 0], .int .i64 3]) (by simp [results, Tryd.results17, go_sem, z0, z1, z2, z3, z4]) rfl ?_
          rw [hE']
          exact ⟨HBB.out, rfl, by decide⟩
      · have hlk8 : (Instr.lookup MT (.map (some MB)) (.int .i64 8) true).run Tryd.prog X5 = .ok (.tuple #[.int .i64 2, .bool true]) X5 := hlk
        clear hlk
        by_cases hn1 : n = 2
        · subst hn1
          have hok := read_nums (k := 8) (args := args) (by rw [HN.out]; rfl) (by decide)
          rw [HE.out] at hok
          have HOK := Lib.hid hok
          clear hok
          have hlc := HC5.out.lt
          go_wp2_with fail
          have hY : Below X5.heap.size X5 ((X5.alloc (.cells #[.int .i64 16777216] 2)).alloc (.cells #[.int .i64 16777216, .int .i64 255] 2)) := ((Below.refl _ _).alloc (Nat.le_refl _) _).alloc (by simp) _
          have hbk := Blk.made (T := 2) (cs := #[.int .i64 16777216, .int .i64 255]) (X5.alloc (.cells #[.int .i64 16777216] 2))
          rw [show (X5.alloc (.cells #[.int .i64 16777216] 2)).heap.size = X5.heap.size + 1 by simp] at hbk
          obtain ⟨Y, hYe⟩ : ∃ Y, (X5.alloc (.cells #[.int .i64 16777216] 2)).alloc (.cells #[.int .i64 16777216, .int .i64 255] 2) = Y := ⟨_, rfl⟩
          rw [hYe] at hY hbk ⊢
          have hLm : LimAt Y (.slice (some ⟨X5.heap.size + 1, 0, none⟩) 2 2) true := ⟨X5.heap.size + 1, hbk.lt, hbk.c 0 _ rfl, rfl, hbk.c 1 _ rfl⟩
          clear hbk
          have hb5Y := HB5.out.trans (hY.mono HB5.out.size)
          refine (numbers_any _ _ true args _ (HST.out.below hY) hLm HSZA.out (by rw [HN.out]; omega) (HEV5.out.below hY) (HP5.out.below hY)).mono ?_; rintro e w6 ⟨hb6, v, rfl, hown⟩
          have hc6 := (HC5.out.below hY HC5.out.lt).below hb6 (Nat.lt_of_lt_of_le HC5.out.lt hY.size)
          have hz6 := (HZ5.out.below hY HZ5.out.lt).below hb6 (Nat.lt_of_lt_of_le HZ5.out.lt hY.size)
          have hb6w := hb5Y.trans (hb6.mono hb5Y.size)
          have hlY1 : w.heap.size + 1 < Y.heap.size := Nat.lt_of_lt_of_le HC5.out.lt hY.size
          obtain ⟨q, hq⟩ : ∃ q, worstF true 0 args 0 = q := ⟨_, rfl⟩
          have hok := HOK.out
          rw [show (8 == 8) = true from rfl, hq] at hok
          rw [hq]
          have HOK2 := Lib.hid hok
          clear HOK hok hq hLm hYe hY hb6 hb5Y hlk8
          unfold Ints at hown
          have HOWN := Lib.hid hown
          obtain ⟨lo, lc, rfl, hlo⟩ := own_slice hown
          by_cases hq0 : q = 0
          · subst hq0
            have hE' : E = .ok (cmdOf 8 (numsF true 0 args)) := by have h := HOK2.out; rw [if_neg (by simp)] at h; exact h
            obtain ⟨a, b, ha⟩ : ∃ a b, args = [a, b] := by
              have h := HN.out
              match args, h with
              | [a, b], _ => exact ⟨a, b, rfl⟩
            rw [ha] at hE' hown HOWN hlo ⊢
            obtain ⟨x, hx⟩ : ∃ x, nOf a (lim true 0) = x := ⟨_, rfl⟩
            obtain ⟨y, hy⟩ : ∃ y, nOf b (lim true 1) = y := ⟨_, rfl⟩
            have hE' : E = .ok ⟨8, y, x, [], []⟩ := by rw [hE', ← hx, ← hy]; rfl
            obtain ⟨lg, rfl, hlgY, hlg, -, -⟩ := hlo (by simp [numsF])
            have l0 : w6.cell? ⟨lg, 0, none⟩ = some (.int .i64 x) := by
              have h := World.ownsRow.cells HOWN.out (g := lg) rfl 0 (.int .i64 x) (by rw [← hx]; rfl)
              simpa [Addr.add] using h
            have l1 : w6.cell? ⟨lg, 1, none⟩ = some (.int .i64 y) := by
              have h := World.ownsRow.cells HOWN.out (g := lg) rfl 1 (.int .i64 y) (by rw [← hy]; rfl)
              simpa [Addr.add] using h
            rw [show (numsF true 0 [a, b]).length = 2 from rfl] at *
            have r1 := hc6.c 1 _ rfl
            have r2 := hc6.c 2 _ rfl
            have rf := hc6.fz
            have q0 := hc6.c 0 _ rfl
            go_upto_region 29 with fail
            have hlne : lg ≠ w.heap.size + 1 := by omega
            have hlne' : w.heap.size + 1 ≠ lg := by omega
            go_region
            have hc7 := hc6.set_ 2 (.int .i64 x) _ rfl
            have hz7 := hz6.far (p := ⟨w.heap.size + 1, 2, none⟩) (show w.heap.size ≠ w.heap.size + 1 by omega) (.int .i64 x)
            have hb7 := hb6w.setCell (p := ⟨w.heap.size + 1, 2, none⟩) (by show w.heap.size ≤ w.heap.size + 1; omega) (.int .i64 x)
            have hc8 := hc7.set_ 1 (.int .i64 y) _ rfl
            have hz8 := hz7.far (p := ⟨w.heap.size + 1, 1, none⟩) (show w.heap.size ≠ w.heap.size + 1 by omega) (.int .i64 y)
            have hb8 := (hb7.setCell (p := ⟨w.heap.size + 1, 1, none⟩) (by show w.heap.size ≤ w.heap.size + 1; omega) (.int .i64 y)).drew
            obtain ⟨X, hX⟩ : ∃ X, ((w6.setCell ⟨w.heap.size + 1, 2, none⟩ (.int .i64 x)).setCell ⟨w.heap.size + 1, 1, none⟩ (.int .i64 y)).drew = X := ⟨_, rfl⟩
            have HCX : Hid (Blk CmT (w.heap.size + 1) #[.int .i64 (8 : Nat), .int .i64 y, .int .i64 x, .slice none 0 0, .slice none 0 0] X) := Lib.hid (by rw [← hX]; exact hc8)
            have HZX : Hid (Blk CmT w.heap.size #[.int .i64 0, .int .i64 0, .int .i64 0, .slice none 0 0, .slice none 0 0] X) := Lib.hid (by rw [← hX]; exact hz8)
            rw [hX] at hb8 ⊢
            have HBX := Lib.hid hb8
            clear hown HOWN hlo ha hx hy hc6 hz6 hb6w hc7 hz7 hb7 hc8 hz8 hb8 hX
            have q0 := HCX.out.c 0 _ rfl
            have q1 := HCX.out.c 1 _ rfl
            have q2 := HCX.out.c 2 _ rfl
            have q3 := HCX.out.c 3 _ rfl
            have q4 := HCX.out.c 4 _ rfl
            have z0 := HZX.out.c 0 _ rfl
            have z1 := HZX.out.c 1 _ rfl
            have z2 := HZX.out.c 2 _ rfl
            have z3 := HZX.out.c 3 _ rfl
            have z4 := HZX.out.c 4 _ rfl
            have zf := HZX.out.fz
            have HZF := Lib.hid (blk5 HZX.out (.int .i64 8) (.int .i64 y) (.int .i64 x) (.slice none 0 0) (.slice none 0 0))
            have HBF := Lib.hid (below5 HBX.out (Nat.le_refl _) (.int .i64 8) (.int .i64 y) (.int .i64 x) (.slice none 0 0) (.slice none 0 0))
            go_wp2_with fail
            obtain ⟨V, hV⟩ : ∃ V, (((((X.setCell ⟨w.heap.size, 0, none⟩ (.int .i64 8)).setCell ⟨w.heap.size, 1, none⟩ (.int .i64 y)).setCell ⟨w.heap.size, 2, none⟩ (.int .i64 x)).setCell ⟨w.heap.size, 3, none⟩ (.slice none 0 0)).setCell ⟨w.heap.size, 4, none⟩ (.slice none 0 0)) = V := ⟨_, rfl⟩
            rw [hV] at HZF HBF ⊢
            have y0 := HZF.out.c 0 _ rfl
            have y1 := HZF.out.c 1 _ rfl
            have y2 := HZF.out.c 2 _ rfl
            have y3 := HZF.out.c 3 _ rfl
            have y4 := HZF.out.c 4 _ rfl
            clear hV q0 q1 q2 q3 q4 z0 z1 z2 z3 z4 zf
            refine bodyPost_ret (v := .tuple #[.agg #[.int .i64 8, (.int .i64 y), (.int .i64 x), (.slice none 0 0), (.slice none 0 0)], .int .i64 0]) (by simp [results, Tryd.results17, go_sem, y0, y1, y2, y3, y4]) rfl ?_
            rw [hE']
            exact ⟨HBF.out, _, _, _, _, _, _, rfl, World.ownsRow_nil _ _ _ _, World.ownsRow_nil _ _ _ _⟩
          · have hE' : E = .error q := by have h := HOK2.out; rw [if_pos hq0] at h; exact h
            have hqb : (q != 0) = true := by simpa using hq0
            have q0 := hc6.c 0 _ rfl
            have hz := hz6
            have z0 := hz.c 0 _ rfl
            have z1 := hz.c 1 _ rfl
            have z2 := hz.c 2 _ rfl
            have z3 := hz.c 3 _ rfl
            have z4 := hz.c 4 _ rfl
            have zf := hz.fz
            have HBB := Lib.hid (below5 hb6w (Nat.le_refl _) (.int .i64 0) (.int .i64 0) (.int .i64 0) (.slice none 0 0) (.slice none 0 0))
            clear hz
            go_wp2_with fail
            refine bodyPost_ret (v := .tuple #[.agg #[.int .i64 0, .int .i64 0, .int .i64 0, .slice none 0 0, .slice none 0 0], .int .i64 q]) (by simp [results, Tryd.results17, go_sem, z0, z1, z2, z3, z4]) rfl ?_
            rw [hE']
            exact ⟨HBB.out, rfl, by exact hq0⟩
        · have hE' : E = .error 3 := by rw [← HE.out]; exact read_bad (by rw [HN.out]; simp [countOk, hn1])
          have hne : (((2 : Int) != (n : Int))) = true := by rw [bne_iff_ne]; omega
          have hz := HZ5.out
          have z0 := hz.c 0 _ rfl
          have z1 := hz.c 1 _ rfl
          have z2 := hz.c 2 _ rfl
          have z3 := hz.c 3 _ rfl
          have z4 := hz.c 4 _ rfl
          have zf := hz.fz
          have HBB := Lib.hid (below5 HB5.out (Nat.le_refl _) (.int .i64 0) (.int .i64 0) (.int .i64 0) (.slice none 0 0) (.slice none 0 0))
          clear hz
          go_wp2_with fail
          refine bodyPost_ret (v := .tuple #[.agg #[.int .i64 0, .int .i64 0, .int .i64 0, .slice none 0 0, .slice none 0 0], .int .i64 3]) (by simp [results, Tryd.results17, go_sem, z0, z1, z2, z3, z4]) rfl ?_
          rw [hE']
          exact ⟨HBB.out, rfl, by decide⟩
end Sc
end Go.Proofs.YtaaknnmnkgnbjaaDoor
