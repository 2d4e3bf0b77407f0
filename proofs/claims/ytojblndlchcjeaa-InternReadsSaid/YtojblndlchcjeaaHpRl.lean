/- Chapter 17, the walk: awake. -/
import Derived.Test.YtojblndlchcjeaaHpRk
set_option linter.unusedVariables false
namespace Go.Proofs.Ytojblndlchcjeaa
open Go.RowKit
namespace Hp
open Bs Sm
def freshL : Bts := [102, 114, 101, 115, 104]
set_option maxRecDepth 1000000 in
theorem fresh_no : (symT 0)[spotL (symT 0) freshL]? ≠ some freshL := by decide +kernel
theorem mem_not {T : List Bts} {s : Bts} (hR : Rises T) (h : T[spotL T s]? ≠ some s) : s ∉ T := fun hm => h ((spot_iff hR).2 hm)
set_option maxRecDepth 100000 in
set_option maxHeartbeats 3200000 in
theorem awake17_any (w : World) : Calls Try.prog 5 #[] w (Back (.bool true) w) := by
  have HTW := Lib.hid (fun w => town_any 500 (by omega) [] [] (.slice none 0 0) (.slice none 0 0) w (Rd.nil _ _ _) (Rd.nil _ _ _) (fun _ h => by cases h) (fun _ h => by cases h))
  obtain ⟨k, hk⟩ := town_sym 0 (by omega) [] []
  have hk0 : (0 : Nat) ≠ k := by
    rintro rfl
    have h := hk.hk
    have h2 := hk.hr
    rw [h] at h2
    have h3 := congrArg Ob.at_ (Option.some.inj h2)
    have h4 : symsAt 0 = 2 := h3
    unfold symsAt globAt schedAt baseAt NN at h4
    omega
  have hsy := town_syms 0 (by omega) [] []
  have hch := chain_lay 0 (by omega) [] []
  have htx := hsy.texts hch hk
  have hR := syms_rise 0 (by omega)
  have hni := mem_not hR fresh_no
  have h17 : (listO (symsAt 0) ((orderL 0).map (fun i => 2 * symAt 0 i) ++ [2 * lackAt 0])).words.length = 17 := rfl
  obtain ⟨l, hl⟩ : ∃ l, layL 0 [] [] = l := ⟨_, rfl⟩
  obtain ⟨lo, hlo⟩ : ∃ o, listO (symsAt 0) ((orderL 0).map (fun i => 2 * symAt 0 i) ++ [2 * lackAt 0]) = o := ⟨_, rfl⟩
  obtain ⟨ro, hro⟩ : ∃ o, listO 2 (rootW 0) = o := ⟨_, rfl⟩
  obtain ⟨T, hT⟩ : ∃ T, symT 0 = T := ⟨_, rfl⟩
  have hfn := fresh_no
  rw [hl, hlo, hro] at hk
  rw [hl, hlo, hT] at hsy
  rw [hl, hlo, hT] at htx
  rw [hl] at hch
  rw [hT] at hR hni hfn
  rw [hlo] at h17
  obtain ⟨N, hN⟩ : ∃ N, endL 2 l + 500 = N := ⟨_, rfl⟩
  have hIN := fun (B : Bks) (v : World) (h : Mem B N l 0 v) => intern_new B N l 0 4 0 k ro lo symC arrC T freshL v h hk (by omega) htx hR hfn (by decide) (by omega) (by rw [h17, ← hN]; show endL 2 l + needN 5 17 ≤ _; unfold needN; omega)
  have hFI : ∀ (B : Bks) (v : World) (h : Mem B N (inL l 0 symC arrC (spotL T freshL) lo freshL) 0 v), Calls Try.prog 17 #[.pointer (some ⟨B.h, 0, none⟩), .int .u64 ((4 : Nat) : Int), .string ⟨freshL.toArray⟩] v (Back (.tuple #[uV (2 * endL 2 l), .bool true]) v) := fun B v h => by
    have hf' := h.1
    have hS' := in_sym (at_ := spotL T freshL) (s := freshL) hk hk0
    have hsy' := in_syms (s := freshL) hch hk hsy
    have htx' := hsy'.texts hf'.ch hS'
    have hsk := in_seek (N := N) (last := 0) (s := freshL) hch hf' hk hk0 hsy hR hni
    have hg : getL (inL l 0 symC arrC (spotL T freshL) lo freshL) 4 4 = (2 * (newL l symC arrC (spotL T freshL) lo freshL).at_, 0) := getL_at (i := 4) hf' hS'.hr hS'.rk hS'.rx hS'.w4
    have := ifind_any B N _ 0 4 (newL l symC arrC (spotL T freshL) lo freshL) (insL T freshL) freshL v h (by omega) (by rw [hg, Nat.mul_comm]; exact find_at hf'.ch hS'.hk) (by rw [hg]; exact htx') (ins_rises hR freshL hni)
    rw [hg] at this
    rw [hsk.2, decide_eq_true hsk.1] at this
    exact this
  have hHS : ∀ (B : Bks) (v : World) (h : Mem B N (inL l 0 symC arrC (spotL T freshL) lo freshL) 0 v), Calls Try.prog 18 #[.pointer (some ⟨B.h, 0, none⟩), .int .u64 ((2 * endL 2 l : Nat) : Int)] v (Back (.bool true) v) := fun B v h => by
    have hfr := in_raw (at_ := spotL T freshL) (s := freshL) hch hk
    have hlt : 2 * endL 2 l < 18446744073709551616 := by
      obtain ⟨i, hi⟩ := List.getElem?_of_mem (find_some hfr).1
      have h2 := place_lt h.1 hi
      have h3 := h.1.hi
      have h4 : (rawO (endL 2 l) symC freshL freshL.length).at_ = endL 2 l := rfl
      omega
    have := has_any B N _ 0 (2 * endL 2 l) v h hlt
    rw [(hat_some h.1 hfr).1] at this
    exact this
  obtain ⟨l', hl'⟩ : ∃ l', inL l 0 symC arrC (spotL T freshL) lo freshL = l' := ⟨_, rfl⟩
  rw [hl'] at hIN hFI hHS
  have hIN2 : ∀ (B : Bks) (v : World), Mem B N l 0 v → Calls Try.prog 16 #[.pointer (some ⟨B.h, 0, none⟩), .int .u64 4, .string ⟨freshL.toArray⟩] v (fun e v' => e = .returned (.tuple #[.int .u64 ((2 * endL 2 l : Nat) : Int), .int .i64 0]) ∧ Mem B N l' 0 v' ∧ But (HB B) v v') := hIN
  obtain ⟨E2, hE2⟩ : ∃ E, ((2 * endL 2 l : Nat) : Int) = E := ⟨_, rfl⟩
  unfold uV at hFI
  rw [hE2] at hHS hFI hIN2
  have hfs : (⟨freshL.toArray⟩ : ByteArray) = ⟨#[102, 114, 101, 115, 104]⟩ := rfl
  rw [hfs] at hIN2
  have hFI2 : ∀ (B : Bks) (v : World), Mem B N l' 0 v → Calls Try.prog 17 #[.pointer (some ⟨B.h, 0, none⟩), .int .u64 4, .string ⟨#[102, 114, 101, 115, 104]⟩] v (Back (.tuple #[.int .u64 E2, .bool true]) v) := hFI
  have HIN := Lib.hid hIN2
  have HFI := Lib.hid hFI2
  have HHS := Lib.hid hHS
  have HL := Lib.hid hl
  have HNN := Lib.hid hN
  clear hIN2 hFI2 hIN hFI hHS hl hN hk hsy htx hch hR hni h17 hlo hro hT hfn hl' hk0 hE2 hfs
  have HT2 : Hid (∀ v, Calls Try.prog 6 #[.agg #[.slice none 0 0, .slice none 0 0], .int .i64 500] v (fun e v' => ∃ (B : Bks) (la : Option Addr) (m lc : Nat), e = .returned (.tuple #[.pointer (some ⟨B.h, 0, none⟩), .agg #[.int .i64 (N : Int), .slice la m lc, .int .u32 0], .bool true]) ∧ Mem B N l 0 v' ∧ (∀ b, HB B b → v.heap.size ≤ b) ∧ Below v.heap.size v v')) := Lib.hid (fun v => by
    refine (HTW.out v).mono fun e v' h => ?_
    obtain ⟨B, lv, h1, h2, h3, h4, h5⟩ := h
    obtain ⟨la, lc, e1, -, -⟩ := h3.form
    refine ⟨B, la, l.length, lc, ?_, ?_, h4, h5⟩
    · rw [h1, e1]
      have : layL (min ([] : List Int).length 6) [] [] = l := HL.out
      rw [this, HNN.out]; rfl
    · have : layL (min ([] : List Int).length 6) [] [] = l := HL.out
      rw [this, HNN.out] at h2
      exact h2)
  clear HTW HL HNN
  go_enter Try.func5, Try.ntmps5
  go_wp2_with fail
  refine (HT2.out w).mono ?_; rintro e w1 ⟨B, la, m, lc, rfl, hM1, hB1, hb1⟩
  obtain ⟨W2, hal2⟩ : ∃ W, w1.alloc (.cells #[.int .i64 (N : Int), .slice la m lc, .int .u32 0] RHT) = W := ⟨_, rfl⟩
  have b2 : Below w1.heap.size w1 W2 := by rw [← hal2]; exact alloc_bel w1 _
  have HM2 := Lib.hid (hM1.bel b2)
  have HB2 := Lib.hid (hb1.trans (b2.mono hb1.size))
  have HBB := Lib.hid hB1
  have HAL2 := Lib.hid hal2
  clear hM1 hB1 hb1 b2 hal2
  go_upto_region 2 with fail
  have hal2 := HAL2.out
  rw [hal2]
  clear hal2 HAL2
  go_wp2_with fail
  refine (HIN.out B W2 HM2.out).mono ?_; rintro e w3 ⟨rfl, hM3, hb3⟩
  have HM3 := Lib.hid hM3
  have HB3 := Lib.hid (HB2.out.trans (hb3.bel (fun b hb => HBB.out b hb) HB2.out.size))
  clear hM3 hb3
  go_wp2_with fail
  refine (HFI.out B w3 HM3.out).mono ?_; rintro e w4 ⟨rfl, hb4⟩
  have HM4 := Lib.hid (HM3.out.bel hb4)
  have HB4 := Lib.hid (HB3.out.trans (hb4.mono HB3.out.size))
  clear hb4
  go_wp2_with fail
  refine (HHS.out B w4 HM4.out).mono ?_; rintro e w5 ⟨rfl, hb5⟩
  have HB5 := Lib.hid (HB4.out.trans (hb5.mono HB4.out.size))
  clear hb5
  go_wp2_with fail
  go_ret
  exact ⟨rfl, HB5.out⟩
end Hp
end Go.Proofs.Ytojblndlchcjeaa
