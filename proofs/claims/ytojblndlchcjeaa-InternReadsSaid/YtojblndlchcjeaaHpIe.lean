/- Chapter 17, the walk: intern's cells, raw. -/
import Derived.Test.YtojblndlchcjeaaHpId
import Derived.Test.YtojblndlchcjeaaHpW6
set_option linter.unusedVariables false
namespace Go.Proofs.Ytojblndlchcjeaa
open Go.RowKit
namespace Hp
open Bs Sm
theorem modify_end (f : Ob → Ob) (o : Ob) : ∀ l : List Ob, (l ++ [o]).modify l.length f = l ++ [f o]
  | [] => rfl
  | x :: l => by
    show x :: (l ++ [o]).modify l.length f = x :: (l ++ [f o])
    rw [modify_end f o l]
/-- A raw object while its bytes are laid. -/
def rawO (E c : Nat) (s : List UInt8) (i : Nat) : Ob := ⟨E, ⟨c, 2, s.length, 0, false⟩, [], takeZ s i s.length⟩
theorem rawO_new (l : List Ob) (c : Nat) (s : List UInt8) : newO l c 2 s.length 0 = rawO (endL 2 l) c s 0 := by
  unfold newO rawO
  rw [takeZ_zero]; rfl
theorem rawO_put (l : List Ob) (E c : Nat) (s : List UInt8) (i : Nat) (hi : i < s.length) : putB (l ++ [rawO E c s i]) l.length i (s.getD i 0) = l ++ [rawO E c s (i + 1)] := by
  unfold putB
  rw [modify_end]
  congr 2
  unfold rawO
  dsimp only
  rw [takeZ_set hi]
theorem byte_get (s : List UInt8) (i : Nat) (hi : i < s.length) (h : i < (⟨s.toArray⟩ : ByteArray).size) : (⟨s.toArray⟩ : ByteArray)[i]'h = s.getD i 0 := by
  rw [List.getD_eq_getElem?_getD, List.getElem?_eq_getElem hi]
  rfl
def RawR (B : Bks) (N : Nat) (l : List Ob) (last c : Nat) (s : List UInt8) (w : World) (e : Ending) (w' : World) : Prop :=
  e = .returned (.tuple #[.int .u64 ((2 * endL 2 l : Nat) : Int), .int .i64 0]) ∧ Mem B N (l ++ [rawO (endL 2 l) c s s.length]) last w' ∧ But (HB B) w w'
set_option maxRecDepth 100000 in
set_option maxHeartbeats 1600000 in
theorem raw_any (B : Bks) (N : Nat) (l : List Ob) (last c : Nat) (s : List UInt8) (w : World) (hm : Mem B N l last w) (ok : okB ⟨c, 2, s.length, 0, false⟩ = true) (hc : c < 18446744073709551616) (hsl : s.length ≤ 10000) (hfit : endL 2 l + 2 + (s.length + 7) / 8 ≤ N) :
    Calls Try.prog 35 #[.pointer (some ⟨B.h, 0, none⟩), .int .u64 (c : Int), .string ⟨s.toArray⟩] w (RawR B N l last c s w) := by
  have HA := Lib.hid (alloc_any B N l last c 2 s.length 0 w hm ok hc (by decide) hfit)
  obtain ⟨E, hE⟩ : ∃ E, endL 2 l = E := ⟨_, rfl⟩
  obtain ⟨X, hX⟩ : ∃ X, 2 * E = X := ⟨_, rfl⟩
  obtain ⟨n, hn⟩ : ∃ n, s.length = n := ⟨_, rfl⟩
  have HE := Lib.hid hE
  have HX := Lib.hid hX
  have HN := Lib.hid hn
  rw [hn] at HA hsl
  have hz : ((0 : Nat) : Int) = 0 := rfl
  have h2 : ((2 : Nat) : Int) = 2 := rfl
  rw [hz, h2] at HA
  clear hm ok hc hfit hE hX hz h2
  go_enter Try.func35, Try.ntmps35
  go_wp2_with fail
  refine HA.out.mono ?_; rintro e w1 ⟨rfl, hM1, hb1⟩
  have hM1' : Mem B N (l ++ [rawO E c s 0]) last w1 := by
    rw [← HE.out, ← rawO_new, HN.out]; exact hM1
  have HM1 := Lib.hid hM1'
  have HB1 := Lib.hid hb1
  rw [HE.out, HX.out]
  clear hM1 hM1' hb1
  go_wp2_with fail
  go_loopw [24, 10] (fun y _ wr => ∃ i : Nat, y = .int .i64 (i : Int) ∧ i ≤ n ∧ Hid (Mem B N (l ++ [rawO E c s i]) last wr ∧ But (HB B) w wr)) (fun y _ _ => n - (intOf y).toNat)
  case atStart => exact ⟨0, rfl, Nat.zero_le _, Lib.hid ⟨HM1.out, HB1.out⟩⟩
  case round =>
    obtain ⟨i, rfl, hi, hI⟩ := hrel
    have hn2 : (n : Int) ≤ 10000 := by omega
    have hi1 : (i : Int) ≤ 10000 := by omega
    by_cases hin : i < n
    · have d1 : decide ((i : Int) < (n : Int)) = true := decide_eq_true (by omega)
      have d2 : (i : Int) < (n : Int) := by omega
      have d3 : decide (i < n) = true := decide_eq_true hin
      obtain ⟨bt, hbt⟩ : ∃ b, s.getD i 0 = b := ⟨_, rfl⟩
      have hix : ∀ h : i < (⟨s.toArray⟩ : ByteArray).size, (⟨s.toArray⟩ : ByteArray)[i]'h = bt := fun h => by rw [← hbt]; exact byte_get s i (by rw [HN.out]; exact hin) h
      have hP := Lib.hid (hputb_any B N (l ++ [rawO E c s i]) last l.length i X bt (rawO E c s i) wr hI.out.1 (List.getElem?_concat_length ..) (by rw [← HX.out]; rfl) rfl (by show i < (takeZ s i s.length).length; rw [takeZ_len (by rw [HN.out]; omega), HN.out]; exact hin))
      have hpt := rawO_put l E c s i (by rw [HN.out]; exact hin)
      rw [hbt] at hpt
      rw [hpt] at hP
      have HI := Lib.hid hI.out
      clear hI hpt hbt
      go_wp2_with fail
      clear hix
      refine hP.out.mono ?_; rintro e w2 ⟨rfl, hM2, hb2⟩
      have HE2 : Hid (Mem B N (l ++ [rawO E c s (i + 1)]) last w2 ∧ But (HB B) w w2) := Lib.hid ⟨hM2, HI.out.2.trans hb2⟩
      clear hM2 hb2
      go_wp2_with fail
      exact ⟨⟨i + 1, by simp, by omega, HE2⟩, by simp only [intOf]; omega⟩
    · obtain rfl : i = n := by omega
      have d1 : decide ((i : Int) < (i : Int)) = false := decide_eq_false (by omega)
      have d3 : decide (i < i) = false := decide_eq_false (by omega)
      have HRES : Hid (RawR B N l last c s w (.returned (.tuple #[.int .u64 (X : Int), .int .i64 0])) wr) := Lib.hid (by
        refine ⟨by rw [HE.out, HX.out], ?_, hI.out.2⟩
        rw [HE.out, HN.out]
        exact hI.out.1)
      clear hI
      go_wp2_with fail
      go_ret2
      exact HRES.out
end Hp
end Go.Proofs.Ytojblndlchcjeaa
