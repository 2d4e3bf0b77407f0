/- ChunkJoins: the walk. -/
import Derived.Test.YthdigbkcffihkaaGreatDoorCkT
import Derived.Deep.DeepCutAuto
set_option linter.unusedVariables false
namespace Go.Proofs.YthdigbkcffihkaaGreatDoor
open Go.RowKit
namespace Ck
open Lx
set_option maxRecDepth 100000 in
set_option maxHeartbeats 3200000 in
theorem joins_walk (a b : ByteArray) (w : World) (_ : a.size ≤ 9223372036854775807) (_ : b.size ≤ 9223372036854775807) (hev : ErrVar w) : Calls Tryz.prog 4 #[.string a, .string b] w (Back (.bool true) w) := by
  obtain ⟨A1, hA1, hA5⟩ : ∃ A1 : ByteArray, cutB a 5000 = A1 ∧ A1.size ≤ 5000 := ⟨_, rfl, cutB_le a 5000⟩
  obtain ⟨B1, hB1, hB5⟩ : ∃ B1 : ByteArray, cutB b 5000 = B1 ∧ B1.size ≤ 5000 := ⟨_, rfl, cutB_le b 5000⟩
  have HR := Lib.hid (fun (s : ByteArray) v (h : ErrVar v) => read_any s v h)
  have HEV := Lib.hid hev
  have HA1 := Lib.hid hA1
  have HB1 := Lib.hid hB1
  clear hev hA1 hB1
  obtain ⟨EA, hEA⟩ : ∃ E, readR A1.data.toList = E := ⟨_, rfl⟩
  obtain ⟨EB, hEB⟩ : ∃ E, readR B1.data.toList = E := ⟨_, rfl⟩
  have HEA := Lib.hid hEA
  have HEB := Lib.hid hEB
  have hRA := HR.out A1
  have hRB := HR.out B1
  rw [hEA] at hRA
  rw [hEB] at hRB
  have HRA := Lib.hid hRA
  have HRB := Lib.hid hRB
  clear hEA hEB hRA hRB
  go_enter Tryz.func4, Tryz.ntmps4
  go_wp2_with fail
  refine (awake12_any _ HEV.out).mono ?_; rintro e w1 ⟨rfl, hb1⟩
  go_upto_if 19 with fail
  go_cut [0] (fun s0 wx => s0 = .string A1 ∧ wx = w1)
  case first =>
    have hA1 := HA1.out
    unfold cutB at hA1
    by_cases hA : 5000 < a.size
    · rw [if_pos hA] at hA1
      have hdA : decide ((5000 : Int) < (a.size : Int)) = true := decide_eq_true (by omega)
      have hxA : 5000 ≤ a.size := by omega
      go_wp2_with fail
      go_meet
      exact ⟨rfl, rfl⟩
    · rw [if_neg hA] at hA1
      have hdA : decide ((5000 : Int) < (a.size : Int)) = false := decide_eq_false (by omega)
      go_wp2_with fail
      go_meet
      exact ⟨by rw [hA1], rfl⟩
  case rest =>
  obtain ⟨rfl, hwc⟩ := hcut
  rw [hwc]
  clear hwc
  go_upto_if 24 with fail
  go_cut [1] (fun s1 wx => s1 = .string B1 ∧ wx = w1)
  case first =>
    have hB1 := HB1.out
    unfold cutB at hB1
    by_cases hB : 5000 < b.size
    · rw [if_pos hB] at hB1
      have hdB : decide ((5000 : Int) < (b.size : Int)) = true := decide_eq_true (by omega)
      have hxB : 5000 ≤ b.size := by omega
      go_wp2_with fail
      go_meet
      exact ⟨rfl, rfl⟩
    · rw [if_neg hB] at hB1
      have hdB : decide ((5000 : Int) < (b.size : Int)) = false := decide_eq_false (by omega)
      go_wp2_with fail
      go_meet
      exact ⟨by rw [hB1], rfl⟩
  case rest =>
  obtain ⟨rfl, hwc⟩ := hcut
  rw [hwc]
  clear hwc
  go_wp2_with fail
  refine (HRA.out _ (HEV.out.below hb1)).mono ?_; rintro e w2 ⟨hb2, hm⟩
  have hb2 := hb1.trans (hb2.mono hb1.size)
  have HM := Lib.hid hm
  clear hb1 hm
  cases EA with
  | error y =>
    obtain ⟨p, n⟩ := y
    obtain ⟨rfl, hn⟩ := HM.out
    have hnb : (n != 0) = true := by simpa using hn
    go_wp2_with fail
    have hb2' := hb2.alloc (B := w.heap.size) hb2.size (.cells #[.slice none 0 0, .slice none 0 0] UT)
    refine (HRB.out _ (HEV.out.below hb2')).mono ?_; rintro e w3 ⟨hb3, hm3⟩
    have hb3 := hb2'.trans (hb3.mono hb2'.size)
    have HM3 := Lib.hid hm3
    clear hm3 hb2'
    cases EB with
    | error z =>
      obtain ⟨q, m⟩ := z
      obtain ⟨rfl, hm⟩ := HM3.out
      go_wp2_with fail
      go_ret
      exact ⟨rfl, hb3.alloc hb3.size _⟩
    | ok z =>
      obtain ⟨cs2, ss2⟩ := z
      obtain ⟨cv, sv, rfl, cl, hcl, hownC, hfl, hownS⟩ := HM3.out
      obtain ⟨co, cc, rfl, -⟩ := own_slice hownC
      obtain ⟨so, sc, rfl, -⟩ := own_slice hownS
      clear hcl hownC hfl hownS
      go_wp2_with fail
      go_ret
      exact ⟨rfl, hb3.alloc hb3.size _⟩
  | ok y =>
    obtain ⟨cs, ss⟩ := y
    obtain ⟨cv, sv, rfl, hU⟩ := HM.out
    have hU0 := hU
    obtain ⟨cl, hcl, hownC, hfl, hownS⟩ := hU0
    obtain ⟨co, cc, rfl, -⟩ := own_slice hownC
    obtain ⟨so, sc, rfl, -⟩ := own_slice hownS
    obtain ⟨nc, hnc⟩ : ∃ nc, cl.length = nc := ⟨_, rfl⟩
    obtain ⟨ns, hns⟩ : ∃ ns, ss.length = ns := ⟨_, rfl⟩
    rw [hnc, hns] at hU ⊢
    clear hcl hownC hfl hownS hnc hns HM
    have hjn := readR_join (a := A1.data.toList) (b := B1.data.toList) HEA.out (by show A1.size + B1.size < 65536; omega)
    rw [HEB.out] at hjn
    have HJN := Lib.hid hjn
    clear hjn
    go_wp2_with fail
    have hx2 := Blk.made (T := UT) (cs := #[.slice co nc cc, .slice so ns sc]) w2
    have hbx : Below w2.heap.size w2 (w2.alloc (.cells #[.slice co nc cc, .slice so ns sc] UT)) := (Below.refl _ _).alloc (Nat.le_refl _) _
    have hbW := hb2.trans (hbx.mono hb2.size)
    have hUW := hU.below hbx
    obtain ⟨W2, hW2⟩ : ∃ W2, w2.alloc (.cells #[.slice co nc cc, .slice so ns sc] UT) = W2 := ⟨_, rfl⟩
    rw [hW2] at hx2 hbx hbW hUW ⊢
    obtain ⟨XB, hXB⟩ : ∃ XB, w2.heap.size = XB := ⟨_, rfl⟩
    rw [hXB] at hx2 ⊢
    clear hW2 hXB hbx hU hb2
    refine (HRB.out _ (HEV.out.below hbW)).mono ?_; rintro e w3 ⟨hb3, hm3⟩
    have hx3 := hx2.below hb3 hx2.lt
    have hU3 := hUW.below hb3
    have hb3 := hbW.trans (hb3.mono hbW.size)
    have HM3 := Lib.hid hm3
    have HX3 := Lib.hid hx3
    have HUA := Lib.hid hU3
    clear hm3 hx2 hx3 hU3 hUW hbW
    obtain ⟨AJ, fl, hAJ, hcase⟩ : ∃ (AJ : ByteArray) (fl : Bool), AJ.data.toList = joinL A1.data.toList ∧ ((fl = false ∧ AJ = A1 ∧ (A1.size = 0 ∨ ∃ h : A1.size - 1 < A1.size, A1[A1.size - 1] ≠ 33)) ∨ (fl = true ∧ AJ = A1 ++ ⟨#[32]⟩ ∧ ∃ h : A1.size - 1 < A1.size, A1[A1.size - 1] = 33)) := by
      by_cases h0 : A1.size = 0
      · exact ⟨A1, false, (last_none A1 h0).symm, .inl ⟨rfl, rfl, .inl h0⟩⟩
      · by_cases h33 : A1[A1.size - 1]'(by omega) = 33
        · exact ⟨A1 ++ ⟨#[32]⟩, true, joinB A1 (by rw [last_at A1 (by omega), h33]), .inr ⟨rfl, rfl, by omega, h33⟩⟩
        · refine ⟨A1, false, ?_, .inl ⟨rfl, rfl, .inr ⟨by omega, h33⟩⟩⟩
          unfold joinL
          rw [if_neg (by rw [last_at A1 (by omega)]; simpa using h33)]
    have hz : (AJ ++ B1).data.toList = joinL A1.data.toList ++ B1.data.toList := by simp [ByteArray.data_append, hAJ]
    have hRZ := HR.out (AJ ++ B1)
    rw [hz, HJN.out] at hRZ
    obtain ⟨lj, hlj⟩ : ∃ lj, (joinL A1.data.toList).length = lj := ⟨_, rfl⟩
    rw [hlj] at hRZ
    have hszJ : AJ.size = lj := by rw [← hlj, ← hAJ]; rfl
    have hlj5 : lj ≤ 5001 := by
      have h1 : A1.data.toList.length = A1.size := rfl
      rw [← hlj]; unfold joinL
      split
      · rw [List.length_append, List.length_singleton]; omega
      · omega
    have HRZ := Lib.hid hRZ
    have HSJ := Lib.hid hszJ
    have HZZ := Lib.hid hz
    have HLJ := Lib.hid hlj
    clear hRZ hAJ hlj hz hszJ
    have HCASE := Lib.hid hcase
    clear hcase
    have hAJs : AJ.size ≤ 5001 := by rw [HSJ.out]; exact hlj5
    cases EB with
    | error z =>
      obtain ⟨q, m⟩ := z
      obtain ⟨rfl, hm⟩ := HM3.out
      have hmb : (m != 0) = true := by simpa using hm
      have hq := read_err HEB.out
      rw [show B1.data.toList.length = B1.size from rfl] at hq
      have hRZ := HRZ.out
      simp only [] at hRZ
      have HRZ2 := Lib.hid hRZ
      clear hRZ HRZ HJN hm
      have hw1 : IntKind.i64.wrap ((AJ.size : Int) + (q : Int)) = ((lj + q : Nat) : Int) := by rw [HSJ.out, show ((lj : Int) + (q : Int)) = ((lj + q : Nat) : Int) by omega]; exact IntWalk.i64_in _ (by omega)
      obtain ⟨lq, hlq⟩ : ∃ lq, lj + q = lq := ⟨_, rfl⟩
      rw [hlq] at HRZ2 hw1
      clear hlq
      have hb3' := hb3.alloc (B := w.heap.size) hb3.size (.cells #[.slice none 0 0, .slice none 0 0] UT)
      go_upto_region 11 with fail
      go_cut [51] (fun s51 wx => s51 = .bool fl ∧ wx = w3.alloc (.cells #[.slice none 0 0, .slice none 0 0] UT))
      case first =>
        have hcase := HCASE.out
        rcases hcase with ⟨rfl, rfl, h0 | ⟨hl, h33⟩⟩ | ⟨rfl, hAJ, hl, h33⟩
        · have hk0 : (AJ.size : Int) = 0 := by omega
          go_wp2_with fail
          go_meet
          exact ⟨rfl, rfl⟩
        · have hd0 : 0 < AJ.size := by omega
          obtain ⟨la, hla⟩ : ∃ la, AJ.size - 1 = la := ⟨_, rfl⟩
          simp only [hla] at hl h33
          have hw0 : IntKind.i64.wrap ((AJ.size : Int) - 1) = (la : Int) := by rw [show ((AJ.size : Int) - 1) = (la : Int) by omega]; exact IntWalk.i64_in _ (by omega)
          have hb33 : ((AJ[la].toNat : Int) == 33) = false := by
            rw [beq_eq_false_iff_ne]
            intro h
            exact h33 (UInt8.toNat_inj.1 (by have : AJ[la].toNat = 33 := by omega
                                             rw [this]; rfl))
          clear hla h33
          go_wp2_with fail
          go_meet
          exact ⟨rfl, rfl⟩
        · have hd0 : 0 < A1.size := by omega
          obtain ⟨la, hla⟩ : ∃ la, A1.size - 1 = la := ⟨_, rfl⟩
          simp only [hla] at hl h33
          have hw0 : IntKind.i64.wrap ((A1.size : Int) - 1) = (la : Int) := by rw [show ((A1.size : Int) - 1) = (la : Int) by omega]; exact IntWalk.i64_in _ (by omega)
          have hb33 : ((A1[la].toNat : Int) == 33) = true := by rw [h33]; rfl
          replace hAJ := hAJ.symm
          have hAJs : AJ.size ≤ 5001 := by rw [HSJ.out]; exact hlj5
          have hc1 : A1.size + (⟨#[32]⟩ : ByteArray).size ≤ 9223372036854775807 := by show A1.size + 1 ≤ _; omega
          clear hla h33
          go_wp2_with fail
          go_meet
          exact ⟨rfl, rfl⟩
      case rest =>
      obtain ⟨rfl, hwc⟩ := hcut
      rw [hwc]
      clear hwc
      go_upto_if 51 with fail
      go_cut [0] (fun s0 wx => s0 = .string AJ ∧ wx = w3.alloc (.cells #[.slice none 0 0, .slice none 0 0] UT))
      case first =>
        have hcase := HCASE.out
        rcases hcase with ⟨rfl, rfl, -⟩ | ⟨rfl, hAJ, -⟩
        · go_wp2_with fail
          go_meet
          exact ⟨rfl, rfl⟩
        · replace hAJ := hAJ.symm
          have hc1 : A1.size + (⟨#[32]⟩ : ByteArray).size ≤ 9223372036854775807 := by show A1.size + 1 ≤ _; omega
          go_wp2_with fail
          go_meet
          exact ⟨rfl, rfl⟩
      case rest =>
      obtain ⟨rfl, hwc⟩ := hcut
      rw [hwc]
      clear hwc
      obtain ⟨ZZ, hZZ⟩ : ∃ ZZ, AJ ++ B1 = ZZ := ⟨_, rfl⟩
      rw [hZZ] at HRZ2
      go_wp2_with fail
      refine (HRZ2.out _ (HEV.out.below hb3')).mono ?_; rintro e w4 ⟨hb4, rfl, _⟩
      have hb4 := hb3'.trans (hb4.mono hb3'.size)
      go_wp2_with fail
      go_ret
      exact ⟨rfl, hb4.alloc hb4.size _⟩
    | ok z =>
      obtain ⟨cs2, ss2⟩ := z
      obtain ⟨cv2, sv2, rfl, hUB⟩ := HM3.out
      have hU0 := hUB
      obtain ⟨cl2, hcl2, hownC2, hfl2, hownS2⟩ := hU0
      obtain ⟨co2, cc2, rfl, -⟩ := own_slice hownC2
      obtain ⟨so2, sc2, rfl, -⟩ := own_slice hownS2
      obtain ⟨nc2, hnc2⟩ : ∃ n, cl2.length = n := ⟨_, rfl⟩
      obtain ⟨ns2, hns2⟩ : ∃ n, ss2.length = n := ⟨_, rfl⟩
      rw [hnc2, hns2] at hUB ⊢
      clear hcl2 hownC2 hfl2 hownS2 hnc2 hns2 HM3
      have hRZ := HRZ.out
      simp only [] at hRZ
      have HFA := Lib.hid (read_few HEA.out)
      have HFB := Lib.hid (read_few HEB.out)
      have hFZ := HJN.out
      have hzz : (AJ ++ B1).data.toList = joinL A1.data.toList ++ B1.data.toList := HZZ.out
      simp only [] at hFZ
      rw [HLJ.out] at hFZ
      have HFZ := Lib.hid (read_few hFZ)
      have HRZ2 := Lib.hid hRZ
      clear hRZ HRZ HJN hFZ hzz
      have hy0 := Blk.made (T := UT) (cs := #[.slice co2 nc2 cc2, .slice so2 ns2 sc2]) w3
      have hby0 : Below w3.heap.size w3 (w3.alloc (.cells #[.slice co2 nc2 cc2, .slice so2 ns2 sc2] UT)) := (Below.refl _ _).alloc (Nat.le_refl _) _
      have HY := Lib.hid hy0
      have HBY0 := Lib.hid hby0
      have HUB := Lib.hid hUB
      clear hy0 hby0 hUB
      go_upto_region 11 with fail
      go_cut [51] (fun s51 wx => s51 = .bool fl ∧ wx = w3.alloc (.cells #[.slice co2 nc2 cc2, .slice so2 ns2 sc2] UT))
      case first =>
        have hcase := HCASE.out
        rcases hcase with ⟨rfl, rfl, h0 | ⟨hl, h33⟩⟩ | ⟨rfl, hAJ, hl, h33⟩
        · have hk0 : (AJ.size : Int) = 0 := by omega
          go_wp2_with fail
          go_meet
          exact ⟨rfl, rfl⟩
        · have hd0 : 0 < AJ.size := by omega
          obtain ⟨la, hla⟩ : ∃ la, AJ.size - 1 = la := ⟨_, rfl⟩
          simp only [hla] at hl h33
          have hw0 : IntKind.i64.wrap ((AJ.size : Int) - 1) = (la : Int) := by rw [show ((AJ.size : Int) - 1) = (la : Int) by omega]; exact IntWalk.i64_in _ (by omega)
          have hb33 : ((AJ[la].toNat : Int) == 33) = false := by
            rw [beq_eq_false_iff_ne]
            intro h
            exact h33 (UInt8.toNat_inj.1 (by have : AJ[la].toNat = 33 := by omega
                                             rw [this]; rfl))
          clear hla h33
          go_wp2_with fail
          go_meet
          exact ⟨rfl, rfl⟩
        · have hd0 : 0 < A1.size := by omega
          obtain ⟨la, hla⟩ : ∃ la, A1.size - 1 = la := ⟨_, rfl⟩
          simp only [hla] at hl h33
          have hw0 : IntKind.i64.wrap ((A1.size : Int) - 1) = (la : Int) := by rw [show ((A1.size : Int) - 1) = (la : Int) by omega]; exact IntWalk.i64_in _ (by omega)
          have hb33 : ((A1[la].toNat : Int) == 33) = true := by rw [h33]; rfl
          replace hAJ := hAJ.symm
          have hAJs : AJ.size ≤ 5001 := by rw [HSJ.out]; exact hlj5
          have hc1 : A1.size + (⟨#[32]⟩ : ByteArray).size ≤ 9223372036854775807 := by show A1.size + 1 ≤ _; omega
          clear hla h33
          go_wp2_with fail
          go_meet
          exact ⟨rfl, rfl⟩
      case rest =>
      obtain ⟨rfl, hwc⟩ := hcut
      rw [hwc]
      clear hwc
      go_upto_if 51 with fail
      go_cut [0] (fun s0 wx => s0 = .string AJ ∧ wx = w3.alloc (.cells #[.slice co2 nc2 cc2, .slice so2 ns2 sc2] UT))
      case first =>
        have hcase := HCASE.out
        rcases hcase with ⟨rfl, rfl, -⟩ | ⟨rfl, hAJ, -⟩
        · go_wp2_with fail
          go_meet
          exact ⟨rfl, rfl⟩
        · replace hAJ := hAJ.symm
          have hc1 : A1.size + (⟨#[32]⟩ : ByteArray).size ≤ 9223372036854775807 := by show A1.size + 1 ≤ _; omega
          go_wp2_with fail
          go_meet
          exact ⟨rfl, rfl⟩
      case rest =>
      obtain ⟨rfl, hwc⟩ := hcut
      rw [hwc]
      clear hwc
      obtain ⟨ZZ, hZZ⟩ : ∃ ZZ, AJ ++ B1 = ZZ := ⟨_, rfl⟩
      rw [hZZ] at HRZ2
      go_wp2_with fail
      have hev4 := HEV.out.below (hb3.trans (HBY0.out.mono hb3.size))
      refine (HRZ2.out _ hev4).mono ?_; rintro e w4 ⟨hb4, cvz, svz, rfl, hUZ⟩
      have hU0 := hUZ
      obtain ⟨clz, hclz, hownCz, hflz, hownSz⟩ := hU0
      obtain ⟨coz, ccz, rfl, -⟩ := own_slice hownCz
      obtain ⟨soz, scz, rfl, -⟩ := own_slice hownSz
      obtain ⟨ncz, hncz⟩ : ∃ n, clz.length = n := ⟨_, rfl⟩
      obtain ⟨nsz, hnsz⟩ : ∃ n, (ss ++ ss2.map (mvS lj)).length = n := ⟨_, rfl⟩
      rw [hncz, hnsz] at hUZ ⊢
      clear hclz hownCz hflz hownSz hncz hnsz
      go_upto_region 16 with fail
      have hz4 := Blk.made (T := UT) (cs := #[.slice coz ncz ccz, .slice soz nsz scz]) w4
      have hbz : Below w4.heap.size w4 (w4.alloc (.cells #[.slice coz ncz ccz, .slice soz nsz scz] UT)) := (Below.refl _ _).alloc (Nat.le_refl _) _
      have hY4 := (HY.out.below hb4 HY.out.lt).below hbz (Nat.lt_of_lt_of_le HY.out.lt hb4.size)
      have hX3y := HX3.out.below HBY0.out HX3.out.lt
      have hX4 := (hX3y.below hb4 hX3y.lt).below hbz (Nat.lt_of_lt_of_le hX3y.lt hb4.size)
      have hUA4 := ((HUA.out.below HBY0.out).below hb4).below hbz
      have hUB4 := ((HUB.out.below HBY0.out).below hb4).below hbz
      have hUZ4 := hUZ.below hbz
      have hW4 := ((hb3.trans (HBY0.out.mono hb3.size)).trans (hb4.mono (Nat.le_trans hb3.size HBY0.out.size))).trans (hbz.mono (Nat.le_trans (Nat.le_trans hb3.size HBY0.out.size) hb4.size))
      obtain ⟨W4, hW4e⟩ : ∃ v, w4.alloc (.cells #[.slice coz ncz ccz, .slice soz nsz scz] UT) = v := ⟨_, rfl⟩
      rw [hW4e] at hz4 hY4 hX4 hUA4 hUB4 hUZ4 hW4 ⊢
      obtain ⟨ZB, hZB⟩ : ∃ v, w4.heap.size = v := ⟨_, rfl⟩
      obtain ⟨YB, hYB⟩ : ∃ v, w3.heap.size = v := ⟨_, rfl⟩
      rw [hZB] at hz4 ⊢
      rw [hYB] at hY4 ⊢
      have HW4 := Lib.hid hW4
      have HX4 := Lib.hid hX4
      have HY4 := Lib.hid hY4
      have HZ4 := Lib.hid hz4
      have HTX := Lib.hid (told_at hUA4 HFA.out)
      have HTY := Lib.hid (told_at hUB4 HFB.out)
      have HTZ := Lib.hid (told_at hUZ4 HFZ.out)
      have hxl := hX4.lt
      have hyl := hY4.lt
      have HN1 : Hid (cs.length + cs2.length ≤ 1099511627) := Lib.hid (by have := HFZ.out.1; rw [List.length_append, List.length_map] at this; exact this)
      have HN2 : Hid (ss.length + ss2.length ≤ 1099511627) := Lib.hid (by have := HFZ.out.2.1; rw [List.length_append, List.length_map] at this; exact this)
      clear hW4e hZB hYB hbz hb4 hUZ hUZ4 hUA4 hUB4 hW4 hX3y hX4 hY4 hz4 hev4
      have hsall : ∀ v, Below W4.heap.size W4 v → (v.cell? ⟨XB, 0, none⟩ = some (.slice co nc cc) ∧ v.cell? ⟨XB, 1, none⟩ = some (.slice so ns sc) ∧ v.cell? ⟨YB, 0, none⟩ = some (.slice co2 nc2 cc2) ∧ v.cell? ⟨YB, 1, none⟩ = some (.slice so2 ns2 sc2)) := fun v h => ⟨(HX4.out.below h hxl).c 0 _ rfl, (HX4.out.below h hxl).c 1 _ rfl, (HY4.out.below h hyl).c 0 _ rfl, (HY4.out.below h hyl).c 1 _ rfl⟩
      have hB0 : Below W4.heap.size W4 W4.drew := (Below.refl _ W4).drew
      have hfd0 := field0
      have hfd1 := field1
      go_cut [14] (fun s14 wx => ∃ (bb : Nat) (cjo : Option Addr) (cjn cjc : Nat) (sjo : Option Addr) (sjn sjc : Nat), s14 = .pointer (some ⟨bb, 0, none⟩) ∧ Below W4.heap.size W4 wx ∧ Blk RUT bb #[.slice cjo cjn cjc, .slice sjo sjn sjc] wx ∧ ClsG W4.heap.size (.slice cjo cjn cjc) (cs ++ cs2) wx ∧ SrcG W4.heap.size (.slice sjo sjn sjc) (ss ++ ss2) wx)
      case first =>
        refine wp_region_noPanic ?_
        refine Hd.start (fun w' => w'.cell? ⟨XB, 0, none⟩ = some (.slice co nc cc) ∧ w'.cell? ⟨XB, 1, none⟩ = some (.slice so ns sc) ∧ w'.cell? ⟨YB, 0, none⟩ = some (.slice co2 nc2 cc2) ∧ w'.cell? ⟨YB, 1, none⟩ = some (.slice so2 ns2 sc2)) (by kernel_rfl) (hsall _ hB0) (fun hH0 => ?_)
        obtain ⟨v0, hv0⟩ : ∃ v, W4.drew = v := ⟨_, rfl⟩
        rw [hv0] at hB0 hH0 ⊢
        clear hv0
        refine Hd.take 0 1 (oi := ?_) (v := ?_) ?_ (by kernel_rfl) (fun _ _ _ h => h) hH0 ?_ ?_ ?_
        rotate_left 2
        · simp only [List.getElem?_toArray, List.getElem?_cons_zero]
          exact rfl
        · rfl
        · intro w hSw
          (try dsimp only at hSw)
          go_simp
          try with_reducible rfl
        try simp only [Act.put, List.setIfInBounds_toArray, List.set_cons_zero, List.set_cons_succ]
        refine Hd.take 3 4 (oi := ?_) (v := ?_) ?_ (by kernel_rfl) (fun _ _ _ h => h) hH0 ?_ ?_ ?_
        rotate_left 2
        · simp only [List.getElem?_toArray, List.getElem?_cons_succ, List.getElem?_cons_zero]
          exact rfl
        · rfl
        · intro w hSw
          (try dsimp only at hSw)
          go_simp
          try with_reducible rfl
        try simp only [Act.put, List.setIfInBounds_toArray, List.set_cons_zero, List.set_cons_succ]
        refine Hd.take 7 8 (oi := ?_) (v := ?_) ?_ (by kernel_rfl) (fun _ _ _ h => h) hH0 ?_ ?_ ?_
        rotate_left 2
        · simp only [List.getElem?_toArray, List.getElem?_cons_succ, List.getElem?_cons_zero]
          exact rfl
        · rfl
        · intro w hSw
          (try dsimp only at hSw)
          go_simp
          try with_reducible rfl
        try simp only [Act.put, List.setIfInBounds_toArray, List.set_cons_zero, List.set_cons_succ]
        refine Hd.take 10 11 (oi := ?_) (v := ?_) ?_ (by kernel_rfl) (fun _ _ _ h => h) hH0 ?_ ?_ ?_
        rotate_left 2
        · simp only [List.getElem?_toArray, List.getElem?_cons_succ, List.getElem?_cons_zero]
          exact rfl
        · rfl
        · intro w hSw
          (try dsimp only at hSw)
          go_simp
          try with_reducible rfl
        try simp only [Act.put, List.setIfInBounds_toArray, List.set_cons_zero, List.set_cons_succ]
        refine Hd.two 1 15 (o := ?_) (p := ?_) ?_ ?_ (by kernel_rfl) (fun K hK => ?_) (fun K hK => ?_)
        rotate_left 2
        · simp only [List.getElem?_toArray, List.getElem?_cons_succ, List.getElem?_cons_zero]
          exact rfl
        · simp only [List.getElem?_toArray, List.getElem?_cons_succ, List.getElem?_cons_zero]
          exact rfl
        · go_simp
          refine Calls.mono (HTX.out _ hB0) ?_; rintro e v1 ⟨hB1, hb1, c1o, c1n, c1c, s1o, s1n, s1c, rfl, hc1, hs1⟩
          go_wp2_with fail
          refine hK.out _ _ (hsall _ hB1) (fun hH1 => ?_)
          clear hK K
          try simp only [Act.put, List.setIfInBounds_toArray, List.set_cons_zero, List.set_cons_succ]
          clear hb1
          refine Hd.take 2 6 (oi := ?_) (v := ?_) ?_ (by kernel_rfl) (fun _ _ _ h => h) hH1 ?_ ?_ ?_
          rotate_left 2
          · simp only [List.getElem?_toArray, List.getElem?_cons_succ, List.getElem?_cons_zero]
            exact rfl
          · rfl
          · intro w hSw
            (try dsimp only at hSw)
            go_simp
            try with_reducible rfl
          try simp only [Act.put, List.setIfInBounds_toArray, List.set_cons_zero, List.set_cons_succ]
          refine Hd.two 4 15 (o := ?_) (p := ?_) ?_ ?_ (by kernel_rfl) (fun K hK => ?_) (fun K hK => ?_)
          rotate_left 2
          · simp only [List.getElem?_toArray, List.getElem?_cons_succ, List.getElem?_cons_zero]
            exact rfl
          · simp only [List.getElem?_toArray, List.getElem?_cons_succ, List.getElem?_cons_zero]
            exact rfl
          · go_simp
            refine Calls.mono (HTY.out _ hB1) ?_; rintro e v2 ⟨hB2, hb2, c4o, c4n, c4c, s4o, s4n, s4c, rfl, hc4, hs4⟩
            go_wp2_with fail
            refine hK.out _ _ (hsall _ hB2) (fun hH2 => ?_)
            clear hK K
            try simp only [Act.put, List.setIfInBounds_toArray, List.set_cons_zero, List.set_cons_succ]
            replace hc1 := hc1.below hb2
            replace hs1 := hs1.below hb2
            clear hb2
            refine Hd.take 5 6 (oi := ?_) (v := ?_) ?_ (by kernel_rfl) (fun _ _ _ h => h) hH2 ?_ ?_ ?_
            rotate_left 2
            · simp only [List.getElem?_toArray, List.getElem?_cons_succ, List.getElem?_cons_zero]
              exact rfl
            · rfl
            · intro w hSw
              (try dsimp only at hSw)
              go_simp
              try with_reducible rfl
            try simp only [Act.put, List.setIfInBounds_toArray, List.set_cons_zero, List.set_cons_succ]
            refine Hd.two 6 15 (o := ?_) (p := ?_) ?_ ?_ (by kernel_rfl) (fun K hK => ?_) (fun K hK => ?_)
            rotate_left 2
            · simp only [List.getElem?_toArray, List.getElem?_cons_succ, List.getElem?_cons_zero]
              exact rfl
            · simp only [List.getElem?_toArray, List.getElem?_cons_succ, List.getElem?_cons_zero]
              exact rfl
            · refine join_cls rfl (.tmp 77) (.tmp 80) rfl (by simp [Act.eval]) (by simp [Act.eval]) hc1 hc4 HN1.out hB2 ?_
              intro cjo cjn cjc v3 hB3 hkS hkB hb3 hcj
              refine hK.out _ _ (hsall _ hB3) (fun hH3 => ?_)
              clear hK K
              try simp only [Act.put, List.setIfInBounds_toArray, List.set_cons_zero, List.set_cons_succ]
              clear hkS hkB hb3 hc1 hc4 hs1 hs4
              refine Hd.two 8 15 (o := ?_) (p := ?_) ?_ ?_ (by kernel_rfl) (fun K hK => ?_) (fun K hK => ?_)
              rotate_left 2
              · simp only [List.getElem?_toArray, List.getElem?_cons_succ, List.getElem?_cons_zero]
                exact rfl
              · simp only [List.getElem?_toArray, List.getElem?_cons_succ, List.getElem?_cons_zero]
                exact rfl
              · go_simp
                refine Calls.mono (HTX.out _ hB3) ?_; rintro e v4 ⟨hB4, hb4, c8o, c8n, c8c, s8o, s8n, s8c, rfl, hc8, hs8⟩
                go_wp2_with fail
                refine hK.out _ _ (hsall _ hB4) (fun hH4 => ?_)
                clear hK K
                try simp only [Act.put, List.setIfInBounds_toArray, List.set_cons_zero, List.set_cons_succ]
                replace hcj := hcj.below hb4
                clear hb4
                refine Hd.take 9 13 (oi := ?_) (v := ?_) ?_ (by kernel_rfl) (fun _ _ _ h => h) hH4 ?_ ?_ ?_
                rotate_left 2
                · simp only [List.getElem?_toArray, List.getElem?_cons_succ, List.getElem?_cons_zero]
                  exact rfl
                · rfl
                · intro w hSw
                  (try dsimp only at hSw)
                  go_simp
                  try with_reducible rfl
                try simp only [Act.put, List.setIfInBounds_toArray, List.set_cons_zero, List.set_cons_succ]
                refine Hd.two 11 15 (o := ?_) (p := ?_) ?_ ?_ (by kernel_rfl) (fun K hK => ?_) (fun K hK => ?_)
                rotate_left 2
                · simp only [List.getElem?_toArray, List.getElem?_cons_succ, List.getElem?_cons_zero]
                  exact rfl
                · simp only [List.getElem?_toArray, List.getElem?_cons_succ, List.getElem?_cons_zero]
                  exact rfl
                · go_simp
                  refine Calls.mono (HTY.out _ hB4) ?_; rintro e v5 ⟨hB5, hb5, c11o, c11n, c11c, s11o, s11n, s11c, rfl, hc11, hs11⟩
                  go_wp2_with fail
                  refine hK.out _ _ (hsall _ hB5) (fun hH5 => ?_)
                  clear hK K
                  try simp only [Act.put, List.setIfInBounds_toArray, List.set_cons_zero, List.set_cons_succ]
                  replace hcj := hcj.below hb5
                  replace hc8 := hc8.below hb5
                  replace hs8 := hs8.below hb5
                  clear hb5
                  refine Hd.take 12 13 (oi := ?_) (v := ?_) ?_ (by kernel_rfl) (fun _ _ _ h => h) hH5 ?_ ?_ ?_
                  rotate_left 2
                  · simp only [List.getElem?_toArray, List.getElem?_cons_succ, List.getElem?_cons_zero]
                    exact rfl
                  · rfl
                  · intro w hSw
                    (try dsimp only at hSw)
                    go_simp
                    try with_reducible rfl
                  try simp only [Act.put, List.setIfInBounds_toArray, List.set_cons_zero, List.set_cons_succ]
                  refine Hd.two 13 15 (o := ?_) (p := ?_) ?_ ?_ (by kernel_rfl) (fun K hK => ?_) (fun K hK => ?_)
                  rotate_left 2
                  · simp only [List.getElem?_toArray, List.getElem?_cons_succ, List.getElem?_cons_zero]
                    exact rfl
                  · simp only [List.getElem?_toArray, List.getElem?_cons_succ, List.getElem?_cons_zero]
                    exact rfl
                  · refine join_src rfl (.tmp 84) (.tmp 87) rfl (by simp [Act.eval]) (by simp [Act.eval]) hs8 hs11 HN2.out hB5 ?_
                    intro sjo sjn sjc v6 hB6 hkC hkB hb6 hsj
                    refine hK.out _ _ (hsall _ hB6) (fun hH6 => ?_)
                    clear hK K
                    try simp only [Act.put, List.setIfInBounds_toArray, List.set_cons_zero, List.set_cons_succ]
                    replace hcj := hkC _ _ hcj
                    clear hkC hkB hb6 hc8 hc11 hs8 hs11
                    refine Hd.take 14 16 (oi := ?_) (v := ?_) ?_ (by kernel_rfl) (fun _ _ _ h => h) hH6 ?_ ?_ ?_
                    rotate_left 2
                    · simp only [List.getElem?_toArray, List.getElem?_cons_succ, List.getElem?_cons_zero]
                      exact rfl
                    · rfl
                    · intro w hSw
                      (try dsimp only at hSw)
                      go_simp
                      try with_reducible rfl
                    try simp only [Act.put, List.setIfInBounds_toArray, List.set_cons_zero, List.set_cons_succ]
                    refine Hd.one 15 15 (o := ?_) ?_ (by kernel_rfl) (fun K hK => ?_)
                    rotate_left 1
                    · simp only [List.getElem?_toArray, List.getElem?_cons_succ, List.getElem?_cons_zero]
                      exact rfl
                    go_simp
                    have hbe : Below v6.heap.size v6 (v6.alloc (.cells #[.slice none 0 0, .slice none 0 0] RUT)) := (Below.refl _ _).alloc (Nat.le_refl _) _
                    have hB7 := hB6.trans (hbe.mono hB6.size)
                    refine hK.out _ _ (hsall _ hB7) (fun hH7 => ?_)
                    clear hK K
                    try simp only [Act.put, List.setIfInBounds_toArray, List.set_cons_zero, List.set_cons_succ]
                    have hbb := Blk.made (T := RUT) (cs := #[.slice none 0 0, .slice none 0 0]) v6
                    replace hcj := hcj.below hbe
                    replace hsj := hsj.below hbe
                    obtain ⟨bb, hbbe⟩ : ∃ bb, v6.heap.size = bb := ⟨_, rfl⟩
                    have hbl : W4.heap.size ≤ bb := by rw [← hbbe]; exact hB6.size
                    rw [hbbe] at hbb ⊢
                    clear hbe
                    obtain ⟨v7, hV2⟩ : ∃ v, v6.alloc (.cells #[.slice none 0 0, .slice none 0 0] RUT) = v := ⟨_, rfl⟩
                    rw [hV2] at hbb hB7 hH7 hcj hsj ⊢
                    clear hV2 hbbe
                    have b0 := hbb.c 0 _ rfl
                    have b1 := hbb.c 1 _ rfl
                    have bf := hbb.fz
                    refine Hd.last 16 (o := ?_) ?_ (by kernel_rfl) (by kernel_rfl) (by kernel_rfl) (fun K hK => ?_)
                    rotate_left 1
                    · simp only [List.getElem?_toArray, List.getElem?_cons_succ, List.getElem?_cons_zero]
                      exact rfl
                    go_simp
                    refine hK.out _ _ ?_
                    clear hK K
                    try simp only [Act.put, List.setIfInBounds_toArray, List.set_cons_zero, List.set_cons_succ]
                    simp only [NoPanic]
                    have hf1 := (hbb.set_ 0 (.slice cjo cjn cjc) _ rfl)
                    have hf2 := hf1.set_ 1 (.slice sjo sjn sjc) _ rfl
                    have hBF := (hB7.setCell (p := ⟨bb, 0, none⟩) hbl (.slice cjo cjn cjc)).setCell (p := ⟨bb, 1, none⟩) hbl (.slice sjo sjn sjc)
                    have hcj2 := (hcj.set_ hbb (by decide) (by decide) 0 (.slice cjo cjn cjc)).set_ hf1 (by decide) (by decide) 1 (.slice sjo sjn sjc)
                    have hsj2 := (hsj.set_ hbb (by decide) 0 (.slice cjo cjn cjc)).set_ hf1 (by decide) 1 (.slice sjo sjn sjc)
                    go_wp2_with fail
                    go_meet
                    exact ⟨bb, _, _, _, _, _, _, rfl, hBF, hf2, hcj2, hsj2⟩
                  · go_simp
                    have hbe : Below v5.heap.size v5 (v5.alloc (.cells #[.slice none 0 0, .slice none 0 0] RUT)) := (Below.refl _ _).alloc (Nat.le_refl _) _
                    have hB6 := hB5.trans (hbe.mono hB5.size)
                    refine hK.out _ _ (hsall _ hB6) (fun hH6 => ?_)
                    clear hK K
                    try simp only [Act.put, List.setIfInBounds_toArray, List.set_cons_zero, List.set_cons_succ]
                    have hbb := Blk.made (T := RUT) (cs := #[.slice none 0 0, .slice none 0 0]) v5
                    replace hcj := hcj.below hbe
                    replace hc8 := hc8.below hbe
                    replace hs8 := hs8.below hbe
                    replace hc11 := hc11.below hbe
                    replace hs11 := hs11.below hbe
                    obtain ⟨bb, hbbe⟩ : ∃ bb, v5.heap.size = bb := ⟨_, rfl⟩
                    have hbl : W4.heap.size ≤ bb := by rw [← hbbe]; exact hB5.size
                    rw [hbbe] at hbb ⊢
                    clear hbe
                    obtain ⟨v6, hV2⟩ : ∃ v, v5.alloc (.cells #[.slice none 0 0, .slice none 0 0] RUT) = v := ⟨_, rfl⟩
                    rw [hV2] at hbb hB6 hH6 hcj hc8 hs8 hc11 hs11 ⊢
                    clear hV2 hbbe
                    refine Hd.one 13 13 (o := ?_) ?_ (by kernel_rfl) (fun K hK => ?_)
                    rotate_left 1
                    · simp only [List.getElem?_toArray, List.getElem?_cons_succ, List.getElem?_cons_zero]
                      exact rfl
                    refine join_src rfl (.tmp 84) (.tmp 87) rfl (by simp [Act.eval]) (by simp [Act.eval]) hs8 hs11 HN2.out hB6 ?_
                    intro sjo sjn sjc v7 hB7 hkC hkB hb7 hsj
                    refine hK.out _ _ (hsall _ hB7) (fun hH7 => ?_)
                    clear hK K
                    try simp only [Act.put, List.setIfInBounds_toArray, List.set_cons_zero, List.set_cons_succ]
                    replace hcj := hkC _ _ hcj
                    replace hbb := hkB _ _ _ (by decide) hbb
                    clear hkC hkB hb7 hc8 hc11 hs8 hs11
                    refine Hd.take 14 16 (oi := ?_) (v := ?_) ?_ (by kernel_rfl) (fun _ _ _ h => h) hH7 ?_ ?_ ?_
                    rotate_left 2
                    · simp only [List.getElem?_toArray, List.getElem?_cons_succ, List.getElem?_cons_zero]
                      exact rfl
                    · rfl
                    · intro w hSw
                      (try dsimp only at hSw)
                      go_simp
                      try with_reducible rfl
                    try simp only [Act.put, List.setIfInBounds_toArray, List.set_cons_zero, List.set_cons_succ]
                    have b0 := hbb.c 0 _ rfl
                    have b1 := hbb.c 1 _ rfl
                    have bf := hbb.fz
                    refine Hd.last 16 (o := ?_) ?_ (by kernel_rfl) (by kernel_rfl) (by kernel_rfl) (fun K hK => ?_)
                    rotate_left 1
                    · simp only [List.getElem?_toArray, List.getElem?_cons_succ, List.getElem?_cons_zero]
                      exact rfl
                    go_simp
                    refine hK.out _ _ ?_
                    clear hK K
                    try simp only [Act.put, List.setIfInBounds_toArray, List.set_cons_zero, List.set_cons_succ]
                    simp only [NoPanic]
                    have hf1 := (hbb.set_ 0 (.slice cjo cjn cjc) _ rfl)
                    have hf2 := hf1.set_ 1 (.slice sjo sjn sjc) _ rfl
                    have hBF := (hB7.setCell (p := ⟨bb, 0, none⟩) hbl (.slice cjo cjn cjc)).setCell (p := ⟨bb, 1, none⟩) hbl (.slice sjo sjn sjc)
                    have hcj2 := (hcj.set_ hbb (by decide) (by decide) 0 (.slice cjo cjn cjc)).set_ hf1 (by decide) (by decide) 1 (.slice sjo sjn sjc)
                    have hsj2 := (hsj.set_ hbb (by decide) 0 (.slice cjo cjn cjc)).set_ hf1 (by decide) 1 (.slice sjo sjn sjc)
                    go_wp2_with fail
                    go_meet
                    exact ⟨bb, _, _, _, _, _, _, rfl, hBF, hf2, hcj2, hsj2⟩
                · go_simp
                  have hbe : Below v4.heap.size v4 (v4.alloc (.cells #[.slice none 0 0, .slice none 0 0] RUT)) := (Below.refl _ _).alloc (Nat.le_refl _) _
                  have hB5 := hB4.trans (hbe.mono hB4.size)
                  refine hK.out _ _ (hsall _ hB5) (fun hH5 => ?_)
                  clear hK K
                  try simp only [Act.put, List.setIfInBounds_toArray, List.set_cons_zero, List.set_cons_succ]
                  have hbb := Blk.made (T := RUT) (cs := #[.slice none 0 0, .slice none 0 0]) v4
                  replace hcj := hcj.below hbe
                  replace hc8 := hc8.below hbe
                  replace hs8 := hs8.below hbe
                  obtain ⟨bb, hbbe⟩ : ∃ bb, v4.heap.size = bb := ⟨_, rfl⟩
                  have hbl : W4.heap.size ≤ bb := by rw [← hbbe]; exact hB4.size
                  rw [hbbe] at hbb ⊢
                  clear hbe
                  obtain ⟨v5, hV2⟩ : ∃ v, v4.alloc (.cells #[.slice none 0 0, .slice none 0 0] RUT) = v := ⟨_, rfl⟩
                  rw [hV2] at hbb hB5 hH5 hcj hc8 hs8 ⊢
                  clear hV2 hbbe
                  refine Hd.one 11 11 (o := ?_) ?_ (by kernel_rfl) (fun K hK => ?_)
                  rotate_left 1
                  · simp only [List.getElem?_toArray, List.getElem?_cons_succ, List.getElem?_cons_zero]
                    exact rfl
                  go_simp
                  refine Calls.mono (HTY.out _ hB5) ?_; rintro e v6 ⟨hB6, hb6, c11o, c11n, c11c, s11o, s11n, s11c, rfl, hc11, hs11⟩
                  go_wp2_with fail
                  refine hK.out _ _ (hsall _ hB6) (fun hH6 => ?_)
                  clear hK K
                  try simp only [Act.put, List.setIfInBounds_toArray, List.set_cons_zero, List.set_cons_succ]
                  replace hcj := hcj.below hb6
                  replace hc8 := hc8.below hb6
                  replace hs8 := hs8.below hb6
                  replace hbb := hbb.below hb6 hbb.lt
                  clear hb6
                  refine Hd.take 12 13 (oi := ?_) (v := ?_) ?_ (by kernel_rfl) (fun _ _ _ h => h) hH6 ?_ ?_ ?_
                  rotate_left 2
                  · simp only [List.getElem?_toArray, List.getElem?_cons_succ, List.getElem?_cons_zero]
                    exact rfl
                  · rfl
                  · intro w hSw
                    (try dsimp only at hSw)
                    go_simp
                    try with_reducible rfl
                  try simp only [Act.put, List.setIfInBounds_toArray, List.set_cons_zero, List.set_cons_succ]
                  refine Hd.one 13 13 (o := ?_) ?_ (by kernel_rfl) (fun K hK => ?_)
                  rotate_left 1
                  · simp only [List.getElem?_toArray, List.getElem?_cons_succ, List.getElem?_cons_zero]
                    exact rfl
                  refine join_src rfl (.tmp 84) (.tmp 87) rfl (by simp [Act.eval]) (by simp [Act.eval]) hs8 hs11 HN2.out hB6 ?_
                  intro sjo sjn sjc v7 hB7 hkC hkB hb7 hsj
                  refine hK.out _ _ (hsall _ hB7) (fun hH7 => ?_)
                  clear hK K
                  try simp only [Act.put, List.setIfInBounds_toArray, List.set_cons_zero, List.set_cons_succ]
                  replace hcj := hkC _ _ hcj
                  replace hbb := hkB _ _ _ (by decide) hbb
                  clear hkC hkB hb7 hc8 hc11 hs8 hs11
                  refine Hd.take 14 16 (oi := ?_) (v := ?_) ?_ (by kernel_rfl) (fun _ _ _ h => h) hH7 ?_ ?_ ?_
                  rotate_left 2
                  · simp only [List.getElem?_toArray, List.getElem?_cons_succ, List.getElem?_cons_zero]
                    exact rfl
                  · rfl
                  · intro w hSw
                    (try dsimp only at hSw)
                    go_simp
                    try with_reducible rfl
                  try simp only [Act.put, List.setIfInBounds_toArray, List.set_cons_zero, List.set_cons_succ]
                  have b0 := hbb.c 0 _ rfl
                  have b1 := hbb.c 1 _ rfl
                  have bf := hbb.fz
                  refine Hd.last 16 (o := ?_) ?_ (by kernel_rfl) (by kernel_rfl) (by kernel_rfl) (fun K hK => ?_)
                  rotate_left 1
                  · simp only [List.getElem?_toArray, List.getElem?_cons_succ, List.getElem?_cons_zero]
                    exact rfl
                  go_simp
                  refine hK.out _ _ ?_
                  clear hK K
                  try simp only [Act.put, List.setIfInBounds_toArray, List.set_cons_zero, List.set_cons_succ]
                  simp only [NoPanic]
                  have hf1 := (hbb.set_ 0 (.slice cjo cjn cjc) _ rfl)
                  have hf2 := hf1.set_ 1 (.slice sjo sjn sjc) _ rfl
                  have hBF := (hB7.setCell (p := ⟨bb, 0, none⟩) hbl (.slice cjo cjn cjc)).setCell (p := ⟨bb, 1, none⟩) hbl (.slice sjo sjn sjc)
                  have hcj2 := (hcj.set_ hbb (by decide) (by decide) 0 (.slice cjo cjn cjc)).set_ hf1 (by decide) (by decide) 1 (.slice sjo sjn sjc)
                  have hsj2 := (hsj.set_ hbb (by decide) 0 (.slice cjo cjn cjc)).set_ hf1 (by decide) 1 (.slice sjo sjn sjc)
                  go_wp2_with fail
                  go_meet
                  exact ⟨bb, _, _, _, _, _, _, rfl, hBF, hf2, hcj2, hsj2⟩
              · go_simp
                have hbe : Below v3.heap.size v3 (v3.alloc (.cells #[.slice none 0 0, .slice none 0 0] RUT)) := (Below.refl _ _).alloc (Nat.le_refl _) _
                have hB4 := hB3.trans (hbe.mono hB3.size)
                refine hK.out _ _ (hsall _ hB4) (fun hH4 => ?_)
                clear hK K
                try simp only [Act.put, List.setIfInBounds_toArray, List.set_cons_zero, List.set_cons_succ]
                have hbb := Blk.made (T := RUT) (cs := #[.slice none 0 0, .slice none 0 0]) v3
                replace hcj := hcj.below hbe
                obtain ⟨bb, hbbe⟩ : ∃ bb, v3.heap.size = bb := ⟨_, rfl⟩
                have hbl : W4.heap.size ≤ bb := by rw [← hbbe]; exact hB3.size
                rw [hbbe] at hbb ⊢
                clear hbe
                obtain ⟨v4, hV2⟩ : ∃ v, v3.alloc (.cells #[.slice none 0 0, .slice none 0 0] RUT) = v := ⟨_, rfl⟩
                rw [hV2] at hbb hB4 hH4 hcj ⊢
                clear hV2 hbbe
                refine Hd.one 8 8 (o := ?_) ?_ (by kernel_rfl) (fun K hK => ?_)
                rotate_left 1
                · simp only [List.getElem?_toArray, List.getElem?_cons_succ, List.getElem?_cons_zero]
                  exact rfl
                go_simp
                refine Calls.mono (HTX.out _ hB4) ?_; rintro e v5 ⟨hB5, hb5, c8o, c8n, c8c, s8o, s8n, s8c, rfl, hc8, hs8⟩
                go_wp2_with fail
                refine hK.out _ _ (hsall _ hB5) (fun hH5 => ?_)
                clear hK K
                try simp only [Act.put, List.setIfInBounds_toArray, List.set_cons_zero, List.set_cons_succ]
                replace hcj := hcj.below hb5
                replace hbb := hbb.below hb5 hbb.lt
                clear hb5
                refine Hd.take 9 13 (oi := ?_) (v := ?_) ?_ (by kernel_rfl) (fun _ _ _ h => h) hH5 ?_ ?_ ?_
                rotate_left 2
                · simp only [List.getElem?_toArray, List.getElem?_cons_succ, List.getElem?_cons_zero]
                  exact rfl
                · rfl
                · intro w hSw
                  (try dsimp only at hSw)
                  go_simp
                  try with_reducible rfl
                try simp only [Act.put, List.setIfInBounds_toArray, List.set_cons_zero, List.set_cons_succ]
                refine Hd.one 11 11 (o := ?_) ?_ (by kernel_rfl) (fun K hK => ?_)
                rotate_left 1
                · simp only [List.getElem?_toArray, List.getElem?_cons_succ, List.getElem?_cons_zero]
                  exact rfl
                go_simp
                refine Calls.mono (HTY.out _ hB5) ?_; rintro e v6 ⟨hB6, hb6, c11o, c11n, c11c, s11o, s11n, s11c, rfl, hc11, hs11⟩
                go_wp2_with fail
                refine hK.out _ _ (hsall _ hB6) (fun hH6 => ?_)
                clear hK K
                try simp only [Act.put, List.setIfInBounds_toArray, List.set_cons_zero, List.set_cons_succ]
                replace hcj := hcj.below hb6
                replace hbb := hbb.below hb6 hbb.lt
                replace hc8 := hc8.below hb6
                replace hs8 := hs8.below hb6
                clear hb6
                refine Hd.take 12 13 (oi := ?_) (v := ?_) ?_ (by kernel_rfl) (fun _ _ _ h => h) hH6 ?_ ?_ ?_
                rotate_left 2
                · simp only [List.getElem?_toArray, List.getElem?_cons_succ, List.getElem?_cons_zero]
                  exact rfl
                · rfl
                · intro w hSw
                  (try dsimp only at hSw)
                  go_simp
                  try with_reducible rfl
                try simp only [Act.put, List.setIfInBounds_toArray, List.set_cons_zero, List.set_cons_succ]
                refine Hd.one 13 13 (o := ?_) ?_ (by kernel_rfl) (fun K hK => ?_)
                rotate_left 1
                · simp only [List.getElem?_toArray, List.getElem?_cons_succ, List.getElem?_cons_zero]
                  exact rfl
                refine join_src rfl (.tmp 84) (.tmp 87) rfl (by simp [Act.eval]) (by simp [Act.eval]) hs8 hs11 HN2.out hB6 ?_
                intro sjo sjn sjc v7 hB7 hkC hkB hb7 hsj
                refine hK.out _ _ (hsall _ hB7) (fun hH7 => ?_)
                clear hK K
                try simp only [Act.put, List.setIfInBounds_toArray, List.set_cons_zero, List.set_cons_succ]
                replace hcj := hkC _ _ hcj
                replace hbb := hkB _ _ _ (by decide) hbb
                clear hkC hkB hb7 hc8 hc11 hs8 hs11
                refine Hd.take 14 16 (oi := ?_) (v := ?_) ?_ (by kernel_rfl) (fun _ _ _ h => h) hH7 ?_ ?_ ?_
                rotate_left 2
                · simp only [List.getElem?_toArray, List.getElem?_cons_succ, List.getElem?_cons_zero]
                  exact rfl
                · rfl
                · intro w hSw
                  (try dsimp only at hSw)
                  go_simp
                  try with_reducible rfl
                try simp only [Act.put, List.setIfInBounds_toArray, List.set_cons_zero, List.set_cons_succ]
                have b0 := hbb.c 0 _ rfl
                have b1 := hbb.c 1 _ rfl
                have bf := hbb.fz
                refine Hd.last 16 (o := ?_) ?_ (by kernel_rfl) (by kernel_rfl) (by kernel_rfl) (fun K hK => ?_)
                rotate_left 1
                · simp only [List.getElem?_toArray, List.getElem?_cons_succ, List.getElem?_cons_zero]
                  exact rfl
                go_simp
                refine hK.out _ _ ?_
                clear hK K
                try simp only [Act.put, List.setIfInBounds_toArray, List.set_cons_zero, List.set_cons_succ]
                simp only [NoPanic]
                have hf1 := (hbb.set_ 0 (.slice cjo cjn cjc) _ rfl)
                have hf2 := hf1.set_ 1 (.slice sjo sjn sjc) _ rfl
                have hBF := (hB7.setCell (p := ⟨bb, 0, none⟩) hbl (.slice cjo cjn cjc)).setCell (p := ⟨bb, 1, none⟩) hbl (.slice sjo sjn sjc)
                have hcj2 := (hcj.set_ hbb (by decide) (by decide) 0 (.slice cjo cjn cjc)).set_ hf1 (by decide) (by decide) 1 (.slice sjo sjn sjc)
                have hsj2 := (hsj.set_ hbb (by decide) 0 (.slice cjo cjn cjc)).set_ hf1 (by decide) 1 (.slice sjo sjn sjc)
                go_wp2_with fail
                go_meet
                exact ⟨bb, _, _, _, _, _, _, rfl, hBF, hf2, hcj2, hsj2⟩
            · go_simp
              have hbe : Below v2.heap.size v2 (v2.alloc (.cells #[.slice none 0 0, .slice none 0 0] RUT)) := (Below.refl _ _).alloc (Nat.le_refl _) _
              have hB3 := hB2.trans (hbe.mono hB2.size)
              refine hK.out _ _ (hsall _ hB3) (fun hH3 => ?_)
              clear hK K
              try simp only [Act.put, List.setIfInBounds_toArray, List.set_cons_zero, List.set_cons_succ]
              have hbb := Blk.made (T := RUT) (cs := #[.slice none 0 0, .slice none 0 0]) v2
              replace hc1 := hc1.below hbe
              replace hs1 := hs1.below hbe
              replace hc4 := hc4.below hbe
              replace hs4 := hs4.below hbe
              obtain ⟨bb, hbbe⟩ : ∃ bb, v2.heap.size = bb := ⟨_, rfl⟩
              have hbl : W4.heap.size ≤ bb := by rw [← hbbe]; exact hB2.size
              rw [hbbe] at hbb ⊢
              clear hbe
              obtain ⟨v3, hV2⟩ : ∃ v, v2.alloc (.cells #[.slice none 0 0, .slice none 0 0] RUT) = v := ⟨_, rfl⟩
              rw [hV2] at hbb hB3 hH3 hc1 hs1 hc4 hs4 ⊢
              clear hV2 hbbe
              refine Hd.one 6 6 (o := ?_) ?_ (by kernel_rfl) (fun K hK => ?_)
              rotate_left 1
              · simp only [List.getElem?_toArray, List.getElem?_cons_succ, List.getElem?_cons_zero]
                exact rfl
              refine join_cls rfl (.tmp 77) (.tmp 80) rfl (by simp [Act.eval]) (by simp [Act.eval]) hc1 hc4 HN1.out hB3 ?_
              intro cjo cjn cjc v4 hB4 hkS hkB hb4 hcj
              refine hK.out _ _ (hsall _ hB4) (fun hH4 => ?_)
              clear hK K
              try simp only [Act.put, List.setIfInBounds_toArray, List.set_cons_zero, List.set_cons_succ]
              replace hbb := hkB _ _ _ (by decide) hbb
              clear hkS hkB hb4 hc1 hc4 hs1 hs4
              refine Hd.one 8 8 (o := ?_) ?_ (by kernel_rfl) (fun K hK => ?_)
              rotate_left 1
              · simp only [List.getElem?_toArray, List.getElem?_cons_succ, List.getElem?_cons_zero]
                exact rfl
              go_simp
              refine Calls.mono (HTX.out _ hB4) ?_; rintro e v5 ⟨hB5, hb5, c8o, c8n, c8c, s8o, s8n, s8c, rfl, hc8, hs8⟩
              go_wp2_with fail
              refine hK.out _ _ (hsall _ hB5) (fun hH5 => ?_)
              clear hK K
              try simp only [Act.put, List.setIfInBounds_toArray, List.set_cons_zero, List.set_cons_succ]
              replace hcj := hcj.below hb5
              replace hbb := hbb.below hb5 hbb.lt
              clear hb5
              refine Hd.take 9 13 (oi := ?_) (v := ?_) ?_ (by kernel_rfl) (fun _ _ _ h => h) hH5 ?_ ?_ ?_
              rotate_left 2
              · simp only [List.getElem?_toArray, List.getElem?_cons_succ, List.getElem?_cons_zero]
                exact rfl
              · rfl
              · intro w hSw
                (try dsimp only at hSw)
                go_simp
                try with_reducible rfl
              try simp only [Act.put, List.setIfInBounds_toArray, List.set_cons_zero, List.set_cons_succ]
              refine Hd.one 11 11 (o := ?_) ?_ (by kernel_rfl) (fun K hK => ?_)
              rotate_left 1
              · simp only [List.getElem?_toArray, List.getElem?_cons_succ, List.getElem?_cons_zero]
                exact rfl
              go_simp
              refine Calls.mono (HTY.out _ hB5) ?_; rintro e v6 ⟨hB6, hb6, c11o, c11n, c11c, s11o, s11n, s11c, rfl, hc11, hs11⟩
              go_wp2_with fail
              refine hK.out _ _ (hsall _ hB6) (fun hH6 => ?_)
              clear hK K
              try simp only [Act.put, List.setIfInBounds_toArray, List.set_cons_zero, List.set_cons_succ]
              replace hcj := hcj.below hb6
              replace hbb := hbb.below hb6 hbb.lt
              replace hc8 := hc8.below hb6
              replace hs8 := hs8.below hb6
              clear hb6
              refine Hd.take 12 13 (oi := ?_) (v := ?_) ?_ (by kernel_rfl) (fun _ _ _ h => h) hH6 ?_ ?_ ?_
              rotate_left 2
              · simp only [List.getElem?_toArray, List.getElem?_cons_succ, List.getElem?_cons_zero]
                exact rfl
              · rfl
              · intro w hSw
                (try dsimp only at hSw)
                go_simp
                try with_reducible rfl
              try simp only [Act.put, List.setIfInBounds_toArray, List.set_cons_zero, List.set_cons_succ]
              refine Hd.one 13 13 (o := ?_) ?_ (by kernel_rfl) (fun K hK => ?_)
              rotate_left 1
              · simp only [List.getElem?_toArray, List.getElem?_cons_succ, List.getElem?_cons_zero]
                exact rfl
              refine join_src rfl (.tmp 84) (.tmp 87) rfl (by simp [Act.eval]) (by simp [Act.eval]) hs8 hs11 HN2.out hB6 ?_
              intro sjo sjn sjc v7 hB7 hkC hkB hb7 hsj
              refine hK.out _ _ (hsall _ hB7) (fun hH7 => ?_)
              clear hK K
              try simp only [Act.put, List.setIfInBounds_toArray, List.set_cons_zero, List.set_cons_succ]
              replace hcj := hkC _ _ hcj
              replace hbb := hkB _ _ _ (by decide) hbb
              clear hkC hkB hb7 hc8 hc11 hs8 hs11
              refine Hd.take 14 16 (oi := ?_) (v := ?_) ?_ (by kernel_rfl) (fun _ _ _ h => h) hH7 ?_ ?_ ?_
              rotate_left 2
              · simp only [List.getElem?_toArray, List.getElem?_cons_succ, List.getElem?_cons_zero]
                exact rfl
              · rfl
              · intro w hSw
                (try dsimp only at hSw)
                go_simp
                try with_reducible rfl
              try simp only [Act.put, List.setIfInBounds_toArray, List.set_cons_zero, List.set_cons_succ]
              have b0 := hbb.c 0 _ rfl
              have b1 := hbb.c 1 _ rfl
              have bf := hbb.fz
              refine Hd.last 16 (o := ?_) ?_ (by kernel_rfl) (by kernel_rfl) (by kernel_rfl) (fun K hK => ?_)
              rotate_left 1
              · simp only [List.getElem?_toArray, List.getElem?_cons_succ, List.getElem?_cons_zero]
                exact rfl
              go_simp
              refine hK.out _ _ ?_
              clear hK K
              try simp only [Act.put, List.setIfInBounds_toArray, List.set_cons_zero, List.set_cons_succ]
              simp only [NoPanic]
              have hf1 := (hbb.set_ 0 (.slice cjo cjn cjc) _ rfl)
              have hf2 := hf1.set_ 1 (.slice sjo sjn sjc) _ rfl
              have hBF := (hB7.setCell (p := ⟨bb, 0, none⟩) hbl (.slice cjo cjn cjc)).setCell (p := ⟨bb, 1, none⟩) hbl (.slice sjo sjn sjc)
              have hcj2 := (hcj.set_ hbb (by decide) (by decide) 0 (.slice cjo cjn cjc)).set_ hf1 (by decide) (by decide) 1 (.slice sjo sjn sjc)
              have hsj2 := (hsj.set_ hbb (by decide) 0 (.slice cjo cjn cjc)).set_ hf1 (by decide) 1 (.slice sjo sjn sjc)
              go_wp2_with fail
              go_meet
              exact ⟨bb, _, _, _, _, _, _, rfl, hBF, hf2, hcj2, hsj2⟩
          · go_simp
            have hbe : Below v1.heap.size v1 (v1.alloc (.cells #[.slice none 0 0, .slice none 0 0] RUT)) := (Below.refl _ _).alloc (Nat.le_refl _) _
            have hB2 := hB1.trans (hbe.mono hB1.size)
            refine hK.out _ _ (hsall _ hB2) (fun hH2 => ?_)
            clear hK K
            try simp only [Act.put, List.setIfInBounds_toArray, List.set_cons_zero, List.set_cons_succ]
            have hbb := Blk.made (T := RUT) (cs := #[.slice none 0 0, .slice none 0 0]) v1
            replace hc1 := hc1.below hbe
            replace hs1 := hs1.below hbe
            obtain ⟨bb, hbbe⟩ : ∃ bb, v1.heap.size = bb := ⟨_, rfl⟩
            have hbl : W4.heap.size ≤ bb := by rw [← hbbe]; exact hB1.size
            rw [hbbe] at hbb ⊢
            clear hbe
            obtain ⟨v2, hV2⟩ : ∃ v, v1.alloc (.cells #[.slice none 0 0, .slice none 0 0] RUT) = v := ⟨_, rfl⟩
            rw [hV2] at hbb hB2 hH2 hc1 hs1 ⊢
            clear hV2 hbbe
            refine Hd.one 4 4 (o := ?_) ?_ (by kernel_rfl) (fun K hK => ?_)
            rotate_left 1
            · simp only [List.getElem?_toArray, List.getElem?_cons_succ, List.getElem?_cons_zero]
              exact rfl
            go_simp
            refine Calls.mono (HTY.out _ hB2) ?_; rintro e v3 ⟨hB3, hb3, c4o, c4n, c4c, s4o, s4n, s4c, rfl, hc4, hs4⟩
            go_wp2_with fail
            refine hK.out _ _ (hsall _ hB3) (fun hH3 => ?_)
            clear hK K
            try simp only [Act.put, List.setIfInBounds_toArray, List.set_cons_zero, List.set_cons_succ]
            replace hc1 := hc1.below hb3
            replace hs1 := hs1.below hb3
            replace hbb := hbb.below hb3 hbb.lt
            clear hb3
            refine Hd.take 5 6 (oi := ?_) (v := ?_) ?_ (by kernel_rfl) (fun _ _ _ h => h) hH3 ?_ ?_ ?_
            rotate_left 2
            · simp only [List.getElem?_toArray, List.getElem?_cons_succ, List.getElem?_cons_zero]
              exact rfl
            · rfl
            · intro w hSw
              (try dsimp only at hSw)
              go_simp
              try with_reducible rfl
            try simp only [Act.put, List.setIfInBounds_toArray, List.set_cons_zero, List.set_cons_succ]
            refine Hd.one 6 6 (o := ?_) ?_ (by kernel_rfl) (fun K hK => ?_)
            rotate_left 1
            · simp only [List.getElem?_toArray, List.getElem?_cons_succ, List.getElem?_cons_zero]
              exact rfl
            refine join_cls rfl (.tmp 77) (.tmp 80) rfl (by simp [Act.eval]) (by simp [Act.eval]) hc1 hc4 HN1.out hB3 ?_
            intro cjo cjn cjc v4 hB4 hkS hkB hb4 hcj
            refine hK.out _ _ (hsall _ hB4) (fun hH4 => ?_)
            clear hK K
            try simp only [Act.put, List.setIfInBounds_toArray, List.set_cons_zero, List.set_cons_succ]
            replace hbb := hkB _ _ _ (by decide) hbb
            clear hkS hkB hb4 hc1 hc4 hs1 hs4
            refine Hd.one 8 8 (o := ?_) ?_ (by kernel_rfl) (fun K hK => ?_)
            rotate_left 1
            · simp only [List.getElem?_toArray, List.getElem?_cons_succ, List.getElem?_cons_zero]
              exact rfl
            go_simp
            refine Calls.mono (HTX.out _ hB4) ?_; rintro e v5 ⟨hB5, hb5, c8o, c8n, c8c, s8o, s8n, s8c, rfl, hc8, hs8⟩
            go_wp2_with fail
            refine hK.out _ _ (hsall _ hB5) (fun hH5 => ?_)
            clear hK K
            try simp only [Act.put, List.setIfInBounds_toArray, List.set_cons_zero, List.set_cons_succ]
            replace hcj := hcj.below hb5
            replace hbb := hbb.below hb5 hbb.lt
            clear hb5
            refine Hd.take 9 13 (oi := ?_) (v := ?_) ?_ (by kernel_rfl) (fun _ _ _ h => h) hH5 ?_ ?_ ?_
            rotate_left 2
            · simp only [List.getElem?_toArray, List.getElem?_cons_succ, List.getElem?_cons_zero]
              exact rfl
            · rfl
            · intro w hSw
              (try dsimp only at hSw)
              go_simp
              try with_reducible rfl
            try simp only [Act.put, List.setIfInBounds_toArray, List.set_cons_zero, List.set_cons_succ]
            refine Hd.one 11 11 (o := ?_) ?_ (by kernel_rfl) (fun K hK => ?_)
            rotate_left 1
            · simp only [List.getElem?_toArray, List.getElem?_cons_succ, List.getElem?_cons_zero]
              exact rfl
            go_simp
            refine Calls.mono (HTY.out _ hB5) ?_; rintro e v6 ⟨hB6, hb6, c11o, c11n, c11c, s11o, s11n, s11c, rfl, hc11, hs11⟩
            go_wp2_with fail
            refine hK.out _ _ (hsall _ hB6) (fun hH6 => ?_)
            clear hK K
            try simp only [Act.put, List.setIfInBounds_toArray, List.set_cons_zero, List.set_cons_succ]
            replace hcj := hcj.below hb6
            replace hbb := hbb.below hb6 hbb.lt
            replace hc8 := hc8.below hb6
            replace hs8 := hs8.below hb6
            clear hb6
            refine Hd.take 12 13 (oi := ?_) (v := ?_) ?_ (by kernel_rfl) (fun _ _ _ h => h) hH6 ?_ ?_ ?_
            rotate_left 2
            · simp only [List.getElem?_toArray, List.getElem?_cons_succ, List.getElem?_cons_zero]
              exact rfl
            · rfl
            · intro w hSw
              (try dsimp only at hSw)
              go_simp
              try with_reducible rfl
            try simp only [Act.put, List.setIfInBounds_toArray, List.set_cons_zero, List.set_cons_succ]
            refine Hd.one 13 13 (o := ?_) ?_ (by kernel_rfl) (fun K hK => ?_)
            rotate_left 1
            · simp only [List.getElem?_toArray, List.getElem?_cons_succ, List.getElem?_cons_zero]
              exact rfl
            refine join_src rfl (.tmp 84) (.tmp 87) rfl (by simp [Act.eval]) (by simp [Act.eval]) hs8 hs11 HN2.out hB6 ?_
            intro sjo sjn sjc v7 hB7 hkC hkB hb7 hsj
            refine hK.out _ _ (hsall _ hB7) (fun hH7 => ?_)
            clear hK K
            try simp only [Act.put, List.setIfInBounds_toArray, List.set_cons_zero, List.set_cons_succ]
            replace hcj := hkC _ _ hcj
            replace hbb := hkB _ _ _ (by decide) hbb
            clear hkC hkB hb7 hc8 hc11 hs8 hs11
            refine Hd.take 14 16 (oi := ?_) (v := ?_) ?_ (by kernel_rfl) (fun _ _ _ h => h) hH7 ?_ ?_ ?_
            rotate_left 2
            · simp only [List.getElem?_toArray, List.getElem?_cons_succ, List.getElem?_cons_zero]
              exact rfl
            · rfl
            · intro w hSw
              (try dsimp only at hSw)
              go_simp
              try with_reducible rfl
            try simp only [Act.put, List.setIfInBounds_toArray, List.set_cons_zero, List.set_cons_succ]
            have b0 := hbb.c 0 _ rfl
            have b1 := hbb.c 1 _ rfl
            have bf := hbb.fz
            refine Hd.last 16 (o := ?_) ?_ (by kernel_rfl) (by kernel_rfl) (by kernel_rfl) (fun K hK => ?_)
            rotate_left 1
            · simp only [List.getElem?_toArray, List.getElem?_cons_succ, List.getElem?_cons_zero]
              exact rfl
            go_simp
            refine hK.out _ _ ?_
            clear hK K
            try simp only [Act.put, List.setIfInBounds_toArray, List.set_cons_zero, List.set_cons_succ]
            simp only [NoPanic]
            have hf1 := (hbb.set_ 0 (.slice cjo cjn cjc) _ rfl)
            have hf2 := hf1.set_ 1 (.slice sjo sjn sjc) _ rfl
            have hBF := (hB7.setCell (p := ⟨bb, 0, none⟩) hbl (.slice cjo cjn cjc)).setCell (p := ⟨bb, 1, none⟩) hbl (.slice sjo sjn sjc)
            have hcj2 := (hcj.set_ hbb (by decide) (by decide) 0 (.slice cjo cjn cjc)).set_ hf1 (by decide) (by decide) 1 (.slice sjo sjn sjc)
            have hsj2 := (hsj.set_ hbb (by decide) 0 (.slice cjo cjn cjc)).set_ hf1 (by decide) 1 (.slice sjo sjn sjc)
            go_wp2_with fail
            go_meet
            exact ⟨bb, _, _, _, _, _, _, rfl, hBF, hf2, hcj2, hsj2⟩
        · go_simp
          have hbe : Below v0.heap.size v0 (v0.alloc (.cells #[.slice none 0 0, .slice none 0 0] RUT)) := (Below.refl _ _).alloc (Nat.le_refl _) _
          have hB1 := hB0.trans (hbe.mono hB0.size)
          refine hK.out _ _ (hsall _ hB1) (fun hH1 => ?_)
          clear hK K
          try simp only [Act.put, List.setIfInBounds_toArray, List.set_cons_zero, List.set_cons_succ]
          have hbb := Blk.made (T := RUT) (cs := #[.slice none 0 0, .slice none 0 0]) v0
          obtain ⟨bb, hbbe⟩ : ∃ bb, v0.heap.size = bb := ⟨_, rfl⟩
          have hbl : W4.heap.size ≤ bb := by rw [← hbbe]; exact hB0.size
          rw [hbbe] at hbb ⊢
          clear hbe
          obtain ⟨v1, hV2⟩ : ∃ v, v0.alloc (.cells #[.slice none 0 0, .slice none 0 0] RUT) = v := ⟨_, rfl⟩
          rw [hV2] at hbb hB1 hH1  ⊢
          clear hV2 hbbe
          refine Hd.one 1 1 (o := ?_) ?_ (by kernel_rfl) (fun K hK => ?_)
          rotate_left 1
          · simp only [List.getElem?_toArray, List.getElem?_cons_succ, List.getElem?_cons_zero]
            exact rfl
          go_simp
          refine Calls.mono (HTX.out _ hB1) ?_; rintro e v2 ⟨hB2, hb2, c1o, c1n, c1c, s1o, s1n, s1c, rfl, hc1, hs1⟩
          go_wp2_with fail
          refine hK.out _ _ (hsall _ hB2) (fun hH2 => ?_)
          clear hK K
          try simp only [Act.put, List.setIfInBounds_toArray, List.set_cons_zero, List.set_cons_succ]
          replace hbb := hbb.below hb2 hbb.lt
          clear hb2
          refine Hd.take 2 6 (oi := ?_) (v := ?_) ?_ (by kernel_rfl) (fun _ _ _ h => h) hH2 ?_ ?_ ?_
          rotate_left 2
          · simp only [List.getElem?_toArray, List.getElem?_cons_succ, List.getElem?_cons_zero]
            exact rfl
          · rfl
          · intro w hSw
            (try dsimp only at hSw)
            go_simp
            try with_reducible rfl
          try simp only [Act.put, List.setIfInBounds_toArray, List.set_cons_zero, List.set_cons_succ]
          refine Hd.one 4 4 (o := ?_) ?_ (by kernel_rfl) (fun K hK => ?_)
          rotate_left 1
          · simp only [List.getElem?_toArray, List.getElem?_cons_succ, List.getElem?_cons_zero]
            exact rfl
          go_simp
          refine Calls.mono (HTY.out _ hB2) ?_; rintro e v3 ⟨hB3, hb3, c4o, c4n, c4c, s4o, s4n, s4c, rfl, hc4, hs4⟩
          go_wp2_with fail
          refine hK.out _ _ (hsall _ hB3) (fun hH3 => ?_)
          clear hK K
          try simp only [Act.put, List.setIfInBounds_toArray, List.set_cons_zero, List.set_cons_succ]
          replace hbb := hbb.below hb3 hbb.lt
          replace hc1 := hc1.below hb3
          replace hs1 := hs1.below hb3
          clear hb3
          refine Hd.take 5 6 (oi := ?_) (v := ?_) ?_ (by kernel_rfl) (fun _ _ _ h => h) hH3 ?_ ?_ ?_
          rotate_left 2
          · simp only [List.getElem?_toArray, List.getElem?_cons_succ, List.getElem?_cons_zero]
            exact rfl
          · rfl
          · intro w hSw
            (try dsimp only at hSw)
            go_simp
            try with_reducible rfl
          try simp only [Act.put, List.setIfInBounds_toArray, List.set_cons_zero, List.set_cons_succ]
          refine Hd.one 6 6 (o := ?_) ?_ (by kernel_rfl) (fun K hK => ?_)
          rotate_left 1
          · simp only [List.getElem?_toArray, List.getElem?_cons_succ, List.getElem?_cons_zero]
            exact rfl
          refine join_cls rfl (.tmp 77) (.tmp 80) rfl (by simp [Act.eval]) (by simp [Act.eval]) hc1 hc4 HN1.out hB3 ?_
          intro cjo cjn cjc v4 hB4 hkS hkB hb4 hcj
          refine hK.out _ _ (hsall _ hB4) (fun hH4 => ?_)
          clear hK K
          try simp only [Act.put, List.setIfInBounds_toArray, List.set_cons_zero, List.set_cons_succ]
          replace hbb := hkB _ _ _ (by decide) hbb
          clear hkS hkB hb4 hc1 hc4 hs1 hs4
          refine Hd.one 8 8 (o := ?_) ?_ (by kernel_rfl) (fun K hK => ?_)
          rotate_left 1
          · simp only [List.getElem?_toArray, List.getElem?_cons_succ, List.getElem?_cons_zero]
            exact rfl
          go_simp
          refine Calls.mono (HTX.out _ hB4) ?_; rintro e v5 ⟨hB5, hb5, c8o, c8n, c8c, s8o, s8n, s8c, rfl, hc8, hs8⟩
          go_wp2_with fail
          refine hK.out _ _ (hsall _ hB5) (fun hH5 => ?_)
          clear hK K
          try simp only [Act.put, List.setIfInBounds_toArray, List.set_cons_zero, List.set_cons_succ]
          replace hcj := hcj.below hb5
          replace hbb := hbb.below hb5 hbb.lt
          clear hb5
          refine Hd.take 9 13 (oi := ?_) (v := ?_) ?_ (by kernel_rfl) (fun _ _ _ h => h) hH5 ?_ ?_ ?_
          rotate_left 2
          · simp only [List.getElem?_toArray, List.getElem?_cons_succ, List.getElem?_cons_zero]
            exact rfl
          · rfl
          · intro w hSw
            (try dsimp only at hSw)
            go_simp
            try with_reducible rfl
          try simp only [Act.put, List.setIfInBounds_toArray, List.set_cons_zero, List.set_cons_succ]
          refine Hd.one 11 11 (o := ?_) ?_ (by kernel_rfl) (fun K hK => ?_)
          rotate_left 1
          · simp only [List.getElem?_toArray, List.getElem?_cons_succ, List.getElem?_cons_zero]
            exact rfl
          go_simp
          refine Calls.mono (HTY.out _ hB5) ?_; rintro e v6 ⟨hB6, hb6, c11o, c11n, c11c, s11o, s11n, s11c, rfl, hc11, hs11⟩
          go_wp2_with fail
          refine hK.out _ _ (hsall _ hB6) (fun hH6 => ?_)
          clear hK K
          try simp only [Act.put, List.setIfInBounds_toArray, List.set_cons_zero, List.set_cons_succ]
          replace hcj := hcj.below hb6
          replace hbb := hbb.below hb6 hbb.lt
          replace hc8 := hc8.below hb6
          replace hs8 := hs8.below hb6
          clear hb6
          refine Hd.take 12 13 (oi := ?_) (v := ?_) ?_ (by kernel_rfl) (fun _ _ _ h => h) hH6 ?_ ?_ ?_
          rotate_left 2
          · simp only [List.getElem?_toArray, List.getElem?_cons_succ, List.getElem?_cons_zero]
            exact rfl
          · rfl
          · intro w hSw
            (try dsimp only at hSw)
            go_simp
            try with_reducible rfl
          try simp only [Act.put, List.setIfInBounds_toArray, List.set_cons_zero, List.set_cons_succ]
          refine Hd.one 13 13 (o := ?_) ?_ (by kernel_rfl) (fun K hK => ?_)
          rotate_left 1
          · simp only [List.getElem?_toArray, List.getElem?_cons_succ, List.getElem?_cons_zero]
            exact rfl
          refine join_src rfl (.tmp 84) (.tmp 87) rfl (by simp [Act.eval]) (by simp [Act.eval]) hs8 hs11 HN2.out hB6 ?_
          intro sjo sjn sjc v7 hB7 hkC hkB hb7 hsj
          refine hK.out _ _ (hsall _ hB7) (fun hH7 => ?_)
          clear hK K
          try simp only [Act.put, List.setIfInBounds_toArray, List.set_cons_zero, List.set_cons_succ]
          replace hcj := hkC _ _ hcj
          replace hbb := hkB _ _ _ (by decide) hbb
          clear hkC hkB hb7 hc8 hc11 hs8 hs11
          refine Hd.take 14 16 (oi := ?_) (v := ?_) ?_ (by kernel_rfl) (fun _ _ _ h => h) hH7 ?_ ?_ ?_
          rotate_left 2
          · simp only [List.getElem?_toArray, List.getElem?_cons_succ, List.getElem?_cons_zero]
            exact rfl
          · rfl
          · intro w hSw
            (try dsimp only at hSw)
            go_simp
            try with_reducible rfl
          try simp only [Act.put, List.setIfInBounds_toArray, List.set_cons_zero, List.set_cons_succ]
          have b0 := hbb.c 0 _ rfl
          have b1 := hbb.c 1 _ rfl
          have bf := hbb.fz
          refine Hd.last 16 (o := ?_) ?_ (by kernel_rfl) (by kernel_rfl) (by kernel_rfl) (fun K hK => ?_)
          rotate_left 1
          · simp only [List.getElem?_toArray, List.getElem?_cons_succ, List.getElem?_cons_zero]
            exact rfl
          go_simp
          refine hK.out _ _ ?_
          clear hK K
          try simp only [Act.put, List.setIfInBounds_toArray, List.set_cons_zero, List.set_cons_succ]
          simp only [NoPanic]
          have hf1 := (hbb.set_ 0 (.slice cjo cjn cjc) _ rfl)
          have hf2 := hf1.set_ 1 (.slice sjo sjn sjc) _ rfl
          have hBF := (hB7.setCell (p := ⟨bb, 0, none⟩) hbl (.slice cjo cjn cjc)).setCell (p := ⟨bb, 1, none⟩) hbl (.slice sjo sjn sjc)
          have hcj2 := (hcj.set_ hbb (by decide) (by decide) 0 (.slice cjo cjn cjc)).set_ hf1 (by decide) (by decide) 1 (.slice sjo sjn sjc)
          have hsj2 := (hsj.set_ hbb (by decide) 0 (.slice cjo cjn cjc)).set_ hf1 (by decide) 1 (.slice sjo sjn sjc)
          go_wp2_with fail
          go_meet
          exact ⟨bb, _, _, _, _, _, _, rfl, hBF, hf2, hcj2, hsj2⟩
      case rest =>
      obtain ⟨bb, cjo, cjn, cjc, sjo, sjn, sjc, rfl, hBF, hf2, ⟨lj0, hlj0, hoj, hfj⟩, hsj⟩ := hcut
      obtain ⟨F, hF⟩ : ∃ F, wc = F := ⟨_, rfl⟩
      rw [hF] at hBF hf2 hoj hfj hsj ⊢
      clear hF
      have hUJ : UnitsG RCT RST W4.heap.size (.slice cjo cjn cjc) (.slice sjo sjn sjc) (cs ++ cs2) (ss ++ ss2) F := ⟨lj0, hlj0, hoj, hfj, hsj⟩
      clear hoj hfj hsj
      have hzl := HZ4.out.lt
      have hfl := hf2.lt
      have HF2 := Lib.hid hf2
      have HUJ := Lib.hid hUJ
      have hFb : Below F.heap.size F F.drew := (Below.refl _ F).drew
      have hBD := hBF.drew
      have hsF : ∀ v, Below W4.heap.size W4 v → Below F.heap.size F v → (v.cell? ⟨ZB, 0, none⟩ = some (.slice coz ncz ccz) ∧ v.cell? ⟨ZB, 1, none⟩ = some (.slice soz nsz scz) ∧ v.cell? ⟨bb, 0, none⟩ = some (.slice cjo cjn cjc) ∧ v.cell? ⟨bb, 1, none⟩ = some (.slice sjo sjn sjc)) := fun v h h' => ⟨(HZ4.out.below h hzl).c 0 _ rfl, (HZ4.out.below h hzl).c 1 _ rfl, (HF2.out.below h' hfl).c 0 _ rfl, (HF2.out.below h' hfl).c 1 _ rfl⟩
      clear hf2 hUJ
      go_wp2_with fail
      refine wp_region_noPanic ?_
      refine Hd.start (fun w' => w'.cell? ⟨ZB, 0, none⟩ = some (.slice coz ncz ccz) ∧ w'.cell? ⟨ZB, 1, none⟩ = some (.slice soz nsz scz) ∧ w'.cell? ⟨bb, 0, none⟩ = some (.slice cjo cjn cjc) ∧ w'.cell? ⟨bb, 1, none⟩ = some (.slice sjo sjn sjc)) (by kernel_rfl) (hsF _ hBD hFb) (fun hG0 => ?_)
      refine Hd.take 0 1 (oi := ?_) (v := ?_) ?_ (by kernel_rfl) (fun _ _ _ h => h) hG0 ?_ ?_ ?_
      rotate_left 2
      · simp only [List.getElem?_toArray, List.getElem?_cons_zero]
        exact rfl
      · rfl
      · intro w hSw
        (try dsimp only at hSw)
        go_simp
        try with_reducible rfl
      try simp only [Act.put, List.setIfInBounds_toArray, List.set_cons_zero, List.set_cons_succ]
      refine Hd.take 1 2 (oi := ?_) (v := ?_) ?_ (by kernel_rfl) (fun _ _ _ h => h) hG0 ?_ ?_ ?_
      rotate_left 2
      · simp only [List.getElem?_toArray, List.getElem?_cons_succ, List.getElem?_cons_zero]
        exact rfl
      · rfl
      · intro w hSw
        (try dsimp only at hSw)
        go_simp
        try with_reducible rfl
      try simp only [Act.put, List.setIfInBounds_toArray, List.set_cons_zero, List.set_cons_succ]
      refine Hd.take 2 3 (oi := ?_) (v := ?_) ?_ (by kernel_rfl) (fun _ _ _ h => h) hG0 ?_ ?_ ?_
      rotate_left 2
      · simp only [List.getElem?_toArray, List.getElem?_cons_succ, List.getElem?_cons_zero]
        exact rfl
      · rfl
      · intro w hSw
        (try dsimp only at hSw)
        go_simp
        try with_reducible rfl
      try simp only [Act.put, List.setIfInBounds_toArray, List.set_cons_zero, List.set_cons_succ]
      refine Hd.take 3 4 (oi := ?_) (v := ?_) ?_ (by kernel_rfl) (fun _ _ _ h => h) hG0 ?_ ?_ ?_
      rotate_left 2
      · simp only [List.getElem?_toArray, List.getElem?_cons_succ, List.getElem?_cons_zero]
        exact rfl
      · rfl
      · intro w hSw
        (try dsimp only at hSw)
        go_simp
        try with_reducible rfl
      try simp only [Act.put, List.setIfInBounds_toArray, List.set_cons_zero, List.set_cons_succ]
      refine Hd.take 5 6 (oi := ?_) (v := ?_) ?_ (by kernel_rfl) (fun _ _ _ h => h) hG0 ?_ ?_ ?_
      rotate_left 2
      · simp only [List.getElem?_toArray, List.getElem?_cons_succ, List.getElem?_cons_zero]
        exact rfl
      · rfl
      · intro w hSw
        (try dsimp only at hSw)
        go_simp
        try with_reducible rfl
      try simp only [Act.put, List.setIfInBounds_toArray, List.set_cons_zero, List.set_cons_succ]
      refine Hd.one 4 4 (o := ?_) ?_ (by kernel_rfl) (fun K hK => ?_)
      rotate_left 1
      · simp only [List.getElem?_toArray, List.getElem?_cons_succ, List.getElem?_cons_zero]
        exact rfl
      go_simp
      refine Calls.mono (HTZ.out _ hBD) ?_; rintro e w9 ⟨hB9, hb9, zco, zcn, zcc, zso, zsn, zsc, rfl, ⟨lz, hz1, hz2, hz3⟩, hz4⟩
      have hb9 := hFb.trans hb9
      go_wp2_with fail
      refine hK.out _ _ (hsF _ hB9 hb9) (fun hG1 => ?_)
      clear hK K
      try simp only [Act.put, List.setIfInBounds_toArray, List.set_cons_zero, List.set_cons_succ]
      have HSM := Lib.hid (same_any (w := w9) ⟨lz, hz1, hz2, hz3, hz4⟩ (HUJ.out.below hb9) (by rw [List.map_append, List.map_append, List.map_map]; rfl) (by rw [List.map_append, List.map_append, List.map_map]; rfl))
      clear hz1 hz2 hz3 hz4
      refine Hd.one 6 6 (o := ?_) ?_ (by kernel_rfl) (fun K hK => ?_)
      rotate_left 1
      · simp only [List.getElem?_toArray, List.getElem?_cons_succ, List.getElem?_cons_zero]
        exact rfl
      go_simp
      refine Calls.mono HSM.out ?_; rintro e w10 ⟨rfl, hb10⟩
      have hB10 := hB9.trans (hb10.mono hB9.size)
      go_wp2_with fail
      refine hK.out _ _ (hsF _ hB10 (hb9.trans (hb10.mono hb9.size))) (fun hG2 => ?_)
      clear hK K
      try simp only [Act.put, List.setIfInBounds_toArray, List.set_cons_zero, List.set_cons_succ]
      refine Hd.take 7 8 (oi := ?_) (v := ?_) ?_ (by kernel_rfl) (fun _ _ _ h => h) hG2 ?_ ?_ ?_
      rotate_left 2
      · simp only [List.getElem?_toArray, List.getElem?_cons_succ, List.getElem?_cons_zero]
        exact rfl
      · rfl
      · intro w hSw
        (try dsimp only at hSw)
        go_simp
        try with_reducible rfl
      try simp only [Act.put, List.setIfInBounds_toArray, List.set_cons_zero, List.set_cons_succ]
      refine Hd.last 8 (o := ?_) ?_ (by kernel_rfl) (by kernel_rfl) (by kernel_rfl) (fun K hK => ?_)
      rotate_left 1
      · simp only [List.getElem?_toArray, List.getElem?_cons_succ, List.getElem?_cons_zero]
        exact rfl
      go_simp
      refine hK.out _ _ ?_
      clear hK K
      try simp only [Act.put, List.setIfInBounds_toArray, List.set_cons_zero, List.set_cons_succ]
      simp only [NoPanic]
      go_wp2_with fail
      go_ret
      exact ⟨rfl, HW4.out.trans (hB10.mono HW4.out.size)⟩
end Ck
end Go.Proofs.YthdigbkcffihkaaGreatDoor
