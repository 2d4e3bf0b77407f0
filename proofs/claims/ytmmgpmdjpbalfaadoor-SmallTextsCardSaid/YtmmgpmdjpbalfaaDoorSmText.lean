/- The reference's Text: a number's digits, one before the other. -/
import Derived.Test.YtmmgpmdjpbalfaaDoorSmTextMath
import Derived.Test.YtmmgpmdjpbalfaaDoorSmAwake
import Derived.Test.YtmmgpmdjpbalfaaDoorSmRef
set_option linter.unusedVariables false
namespace Go.Proofs.YtmmgpmdjpbalfaaDoor
open Go.RowKit
namespace Sm
set_option maxHeartbeats 1000000 in
theorem amount64 (x : Int) (w : World) (x1 : -9223372036854775808 ≤ x) (x2 : x ≤ 9223372036854775807) :
    Calls Tryd.prog 56 #[.int .i64 x] w (Done (.int .u64 (x.natAbs : Int)) w) := by
  by_cases h : x < 0
  · go_enter Tryd.func56, Tryd.ntmps56
    go_wp2
    go_ret
    exact ⟨ret1 (vint (by simp only [wrap_u64_eq]; omega)), rfl⟩
  · go_enter Tryd.func56, Tryd.ntmps56
    go_wp2
    go_ret
    exact ⟨ret1 (vint (by omega)), rfl⟩
theorem dec_len (n : Nat) : ∀ u, u < 10 ^ (n + 1) → (Lib.decDigits u).length ≤ n + 1 := by
  induction n with
  | zero => intro u h; rw [Lib.decDigits, dif_pos (by omega)]; simp
  | succ n ih =>
    intro u h
    rw [Lib.decDigits]
    split
    · simp
    · have := ih (u / 10) (by rw [Nat.pow_succ] at h; omega)
      simp; omega
theorem dec_len64 (u : Nat) (h : u ≤ 9223372036854775808) : (Lib.decDigits u).length ≤ 20 := dec_len 19 u (by
  have : (10 : Nat) ^ 20 = 100000000000000000000 := by decide
  rw [this]; omega)
/-- One byte in a new block, as a string. -/
theorem conv_one (w : World) (x : Int) : (convert 64 9 (.slice (some ⟨w.heap.size, 0, none⟩) 1 1)).run Tryd.prog (w.alloc (.cells #[.int .u8 x] 5)) = .ok (.string ⟨[UInt8.ofNat x.toNat].toArray⟩) (w.alloc (.cells #[.int .u8 x] 5)) :=
  run_convert_bytes_arg (P := Tryd.prog) (w.alloc (.cells #[.int .u8 x] 5)) 64 5 Tryd.underlying64 Tryd.underlying5 w.heap.size 0 1 1 [x] rfl (fun i hi => by
    obtain rfl : i = 0 := by omega
    simp [go_sem]) 9 Tryd.underlying9
theorem str_app (a b : List UInt8) : (⟨a.toArray⟩ : ByteArray) ++ (⟨b.toArray⟩ : ByteArray) = ⟨(a ++ b).toArray⟩ := ByteArray.mk_append_mk a b
theorem ofd (j : Nat) : UInt8.ofNat (48 + j) = 48 + UInt8.ofNat j := UInt8.ofNat_add 48 j
theorem str_one (c : UInt8) (b : List UInt8) : (⟨#[c]⟩ : ByteArray) ++ (⟨b.toArray⟩ : ByteArray) = ⟨(c :: b).toArray⟩ := str_app [c] b
set_option maxRecDepth 100000 in
set_option maxHeartbeats 2000000 in
theorem rtext_any (n : Int) (w : World) (n1 : -9223372036854775808 ≤ n) (n2 : n ≤ 9223372036854775807) :
    Calls Tryd.prog 33 #[.int .i64 n] w (Back (.string ⟨(Lib.itoa n).toArray⟩) w) := by
  obtain ⟨u, hu⟩ : ∃ u, n.natAbs = u := ⟨_, rfl⟩
  have hu1 : u ≤ 9223372036854775808 := by omega
  have hlen := dec_len64 u hu1
  have HU := Lib.hid hu
  have HL := Lib.hid hlen
  clear hlen
  go_enter Tryd.func33, Tryd.ntmps33
  go_wp2_with (go_at_call 56; go_must (refine (amount64 _ _ n1 n2).mono ?_); rintro e w' ⟨rfl, rfl⟩)
  go_loopw [3, 4] (fun m s wr => ∃ (k : Nat) (sl : List UInt8), k ≤ u ∧ m = .int .u64 (k : Int) ∧ s = .string ⟨sl.toArray⟩ ∧ Lib.decDigits k ++ sl = Lib.decDigits u ∧ Below w.heap.size w wr) (fun m _ _ => (intOf m).toNat)
  case atStart => exact ⟨u, [], Nat.le_refl _, rfl, rfl, by simp, Below.refl _ _⟩
  case round =>
    obtain ⟨k, sl, hk, rfl, rfl, hd, hbw⟩ := hrel
    have hsl : (sl.length : Int) ≤ 8388608 := by
      have h1 : (Lib.decDigits k ++ sl).length ≤ 20 := by rw [hd]; exact HL.out
      rw [List.length_append] at h1; omega
    have HD := Lib.hid hd
    clear hd hu
    have hconv := conv_one wr
    by_cases h10 : 10 ≤ k
    · go_wp2
      go_roundw
      case rel =>
        refine ⟨k / 10, (48 + UInt8.ofNat (k % 10)) :: sl, by omega, by go_num, congrArg Value.string (str_one _ _), ?_, hbw.alloc hbw.size _⟩
        rw [← HD.out, Lib.decDigits.eq_def k, dif_neg (by omega), ofd]; simp
      case measure => simp [intOf]; omega
    · have hdk : Lib.decDigits u = (48 + UInt8.ofNat k) :: sl := by
        rw [← HD.out, Lib.decDigits.eq_def k, dif_pos (by omega), ofd]; rfl
      have HK := Lib.hid hdk
      clear hdk
      by_cases hn : n < 0
      · have hit : Lib.itoa n = 45 :: (48 + UInt8.ofNat k) :: sl := by
          unfold Lib.itoa; rw [if_pos hn, HU.out, HK.out]
        have HI := Lib.hid hit
        clear hit
        go_wp2
        go_ret
        exact ⟨ret1 (congrArg Value.string (by rw [HI.out, str_one, str_one])), hbw.alloc hbw.size _⟩
      · have hit : Lib.itoa n = (48 + UInt8.ofNat k) :: sl := by
          have e : n.toNat = u := by have := HU.out; omega
          unfold Lib.itoa; rw [if_neg hn, e, HK.out]
        have HI := Lib.hid hit
        clear hit
        go_wp2
        go_ret
        exact ⟨ret1 (congrArg Value.string (by rw [HI.out, str_one])), hbw.alloc hbw.size _⟩
end Sm
end Go.Proofs.YtmmgpmdjpbalfaaDoor
