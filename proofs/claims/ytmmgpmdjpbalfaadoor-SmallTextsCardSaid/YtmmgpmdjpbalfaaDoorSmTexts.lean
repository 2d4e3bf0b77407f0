/- SmallTexts: the walk. -/
import Derived.Test.YtmmgpmdjpbalfaaDoorSmRParse
set_option linter.unusedVariables false
namespace Go.Proofs.YtmmgpmdjpbalfaaDoor
open Go.RowKit
namespace Sm
theorem Pow10.below {w w' : World} (h : Pow10 w) (hb : Below w.heap.size w w') : Pow10 w' := by
  have hg : Tryd.prog.globalNamed "internal/strconv.uint64pow10" = some 0 := by kernel_rfl
  unfold Pow10 Lib.TabIs at *
  refine var?_below hb hg ?_ h
  rcases Nat.lt_or_ge 0 w.heap.size with hh | hh
  · exact hh
  · exfalso
    unfold World.var? at h
    simp only [hg, Option.bind_some, Array.getElem?_eq_none hh] at h
    cases h
theorem parse_itoa (n : Int) (w : World) (hv : ErrVar w) (h0 : -9223372036854775808 ≤ n) (h1 : n ≤ 9223372036854775807) :
    Calls Tryd.prog 32 #[.string ⟨(Lib.itoa n).toArray⟩] w (Back (.tuple #[.int .i64 (if -4611686018427387904 ≤ n ∧ n ≤ 4611686018427387903 then n else 0), .int .i64 (if -4611686018427387904 ≤ n ∧ n ≤ 4611686018427387903 then 0 else 9)]) w) := by
  obtain ⟨k1, k2⟩ := itoa_read n
  have e1 : pe (Lib.itoa n) = if -4611686018427387904 ≤ n ∧ n ≤ 4611686018427387903 then 0 else 9 := by unfold pe; rw [if_pos k1, k2]
  have e2 : pv (Lib.itoa n) = if -4611686018427387904 ≤ n ∧ n ≤ 4611686018427387903 then n else 0 := by
    unfold pv; rw [e1, k2]; split
    · rw [if_pos rfl]
    · rw [if_neg (by decide)]
  have hl : (Lib.itoa n).length ≤ 281474976710656 := by
    have := dec_len64 n.natAbs (by omega)
    have h2 := Lib.itoa_nonneg n.natAbs
    rcases Int.le_total 0 n with h | h
    · rw [show n = (n.natAbs : Int) by omega, h2]; omega
    · by_cases hz : n = 0
      · subst hz; rw [show (0 : Int) = ((0 : Nat) : Int) from rfl, Lib.itoa_nonneg]; have := dec_len64 0 (by omega); omega
      · rw [show n = -(n.natAbs : Int) by omega, Lib.itoa_neg _ (by omega), List.length_cons]; omega
  have := parse_any ⟨(Lib.itoa n).toArray⟩ w (by simpa [ByteArray.size] using hl) hv
  rw [← e1, ← e2]
  exact this
set_option maxRecDepth 100000 in
set_option maxHeartbeats 4000000 in
theorem texts_core (n : Int) (s : ByteArray) (v e : Int) (w : World) (n1 : -9223372036854775808 ≤ n) (n2 : n ≤ 9223372036854775807) (hs : s.size ≤ 9223372036854775807) (ht : Pow10 w) (hv : ErrVar w)
    (hp : Hid (∀ w, ErrVar w → Calls Tryd.prog 32 #[.string ⟨(Lib.itoa n).toArray⟩] w (Back (.tuple #[.int .i64 v, .int .i64 e]) w)))
    (hne : (Inr n ∧ v = n ∧ e = 0) ∨ (¬ Inr n ∧ v = 0 ∧ e = 9)) :
    Calls Tryd.prog 9 #[.int .i64 n, .string s] w (Back (.bool true) w) := by
  have H := Lib.hid ht; have HV := Lib.hid hv; clear ht hv
  rcases hne with ⟨hin, rfl, rfl⟩ | ⟨hin, rfl, rfl⟩
  all_goals
    by_cases h100 : 100 < s.size
  all_goals
    go_enter Tryd.func9, Tryd.ntmps9
    go_wp2_with fail
    refine (awake_any _ H.out).mono ?_; rintro e w0 ⟨rfl, hb⟩
    go_wp2_with fail
    refine (text_any _ n1 n2 _ (H.out.below hb)).mono ?_; rintro e w1 ⟨rfl, hb1⟩
    have c1 := hb.trans (hb1.mono hb.size)
    have C1 := Lib.hid c1; clear c1
    go_wp2_with fail
    refine (hp.out _ (HV.out.below C1.out)).mono ?_; rintro e w2 ⟨rfl, hb2⟩
    have c2 := C1.out.trans (hb2.mono C1.out.size)
    have C2 := Lib.hid c2; clear c2
    go_wp2_with fail
    refine (rtext_any _ _ n1 n2).mono ?_; rintro e w3 ⟨rfl, hb3⟩
    have c3 := C2.out.trans (hb3.mono C2.out.size)
    have C3 := Lib.hid c3; clear c3
    go_wp2_with (go_at_call 12; first | (refine (rnumber_in _ _ (by assumption)).mono ?_; rintro e w' ⟨rfl, rfl⟩) | (refine (rnumber_out _ _ (by assumption)).mono ?_; rintro e w' ⟨rfl, rfl⟩))
    refine (parse_any _ _ (by first | omega | (simp [ByteArray.size_extract]; omega)) (HV.out.below C3.out)).mono ?_; rintro e w4 ⟨rfl, hb4⟩
    have c4 := C3.out.trans (hb4.mono C3.out.size)
    have C4 := Lib.hid c4; clear c4
    go_wp2_with fail
    refine (rparse_any _ _ (by first | omega | (simp [ByteArray.size_extract]; omega))).mono ?_; rintro e w' ⟨rfl, rfl⟩
    go_wp2_with fail
    go_ret
    exact ⟨rfl, C4.out⟩
theorem texts_walk (n : Int) (s : ByteArray) (w : World) (n1 : -9223372036854775808 ≤ n) (n2 : n ≤ 9223372036854775807) (hs : s.size ≤ 9223372036854775807) (ht : Pow10 w) (hv : ErrVar w) :
    Calls Tryd.prog 9 #[.int .i64 n, .string s] w (Back (.bool true) w) := by
  by_cases hin : Inr n
  · refine texts_core n s n 0 w n1 n2 hs ht hv (Lib.hid fun w hv => ?_) (.inl ⟨hin, rfl, rfl⟩)
    have := parse_itoa n w hv n1 n2
    rw [if_pos (show -4611686018427387904 ≤ n ∧ n ≤ 4611686018427387903 from hin), if_pos (show -4611686018427387904 ≤ n ∧ n ≤ 4611686018427387903 from hin)] at this
    exact this
  · refine texts_core n s 0 9 w n1 n2 hs ht hv (Lib.hid fun w hv => ?_) (.inr ⟨hin, rfl, rfl⟩)
    have := parse_itoa n w hv n1 n2
    rw [if_neg (show ¬ (-4611686018427387904 ≤ n ∧ n ≤ 4611686018427387903) from hin), if_neg (show ¬ (-4611686018427387904 ≤ n ∧ n ≤ 4611686018427387903) from hin)] at this
    exact this
end Sm
end Go.Proofs.YtmmgpmdjpbalfaaDoor
