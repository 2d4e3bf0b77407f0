/- Chapters 08 and 17, the walk, 3: head.Cells, Pointer, At; pack.Bits: place, Has. -/
import Derived.Test.YtojblndlchcjeaaHpW2
set_option linter.unusedVariables false
namespace Go.Proofs.Ytojblndlchcjeaa
open Go.RowKit
namespace Hp
open Bs Sm
theorem ret1 {a a' : Value} (h : a = a') : Ending.returned a = .returned a' := by rw [h]
theorem ret2 {a a' b b' : Value} (h : a = a') (h' : b = b') : Ending.returned (.tuple #[a, b]) = .returned (.tuple #[a', b']) := by rw [h, h']
theorem ret3 {a a' b b' c c' : Value} (h : a = a') (h' : b = b') (h'' : c = c') : Ending.returned (.tuple #[a, b, c]) = .returned (.tuple #[a', b', c']) := by rw [h, h', h'']
theorem below_drewN (w : World) (n : Nat) : Below w.heap.size w (w.drewN n) := ⟨rfl, rfl, rfl, Nat.le_refl _, fun _ _ => rfl⟩
theorem vint {k : IntKind} {a b : Int} (h : a = b) : Value.int k a = Value.int k b := by rw [h]
set_option maxHeartbeats 800000 in
theorem cells_ok (h : Hdr) (ok : okB h = true) (hc : h.cls < 18446744073709551616) (w : World) :
    Calls Try.prog 63 #[hdV h] w (Back (.int .i64 (cellsL h : Nat)) w) := by
  obtain ⟨c, k, s, x, m⟩ := h
  have HC0 := Lib.hid (fun w => check_any c (k : Int) (s : Int) x m w hc)
  rw [chk_ok ok] at HC0
  obtain ⟨h1, h2, h3, h4, h5⟩ := (okB_iff _).1 ok
  dsimp only at h1 h2 h3 h4 h5 hc
  clear ok h1 h2 h4 hc
  have b3 : (s : Int) ≤ 1048576 := by omega
  unfold hdV uV cellsL
  dsimp only
  by_cases hk : k = 2
  · subst hk
    have HC : Hid (∀ w, Calls Try.prog 76 #[.agg #[.int .u64 (c : Int), .int .i64 2, .int .i64 (s : Int), .int .u32 (x : Int), .bool m]] w (Back (.int .i64 0) w)) := Lib.hid HC0.out
    clear h5 HC0
    rw [if_pos rfl]
    obtain ⟨W1, hal1⟩ : ∃ W1, w.alloc (.cells #[.int .u64 (c : Int), .int .i64 2, .int .i64 (s : Int), .int .u32 (x : Int), .bool m] HDT) = W1 := ⟨_, rfl⟩
    have b1 : Below w.heap.size w W1 := by rw [← hal1]; exact alloc_bel _ _
    have qA : Blk HDT w.heap.size #[.int .u64 (c : Int), .int .i64 2, .int .i64 (s : Int), .int .u32 (x : Int), .bool m] W1 := by rw [← hal1]; exact Blk.made _
    have c0 := qA.c 0 _ rfl
    have c1 := qA.c 1 _ rfl
    have c2 := qA.c 2 _ rfl
    have c3 := qA.c 3 _ rfl
    have c4 := qA.c 4 _ rfl
    have QA := Lib.hid qA; have BB := Lib.hid b1
    clear qA b1
    go_enter Try.func63, Try.ntmps63
    go_wp2_with fail
    refine (HC.out _).mono ?_; rintro e w1 ⟨rfl, hb1⟩
    have qB := QA.out.below hb1 QA.out.lt
    have d1 := qB.c 1 _ rfl
    have d2 := qB.c 2 _ rfl
    have BB1 := Lib.hid (BB.out.trans (hb1.mono BB.out.size))
    clear hb1 qB
    go_wp2_with fail
    go_ret
    exact ⟨ret1 (vint (by first | rfl | omega)), BB1.out⟩
  · have hkb : ((k : Int) == 2) = false := by simp; omega
    rw [if_neg hk]
    have HC := Lib.hid HC0.out
    clear hk h5 HC0
    obtain ⟨W1, hal1⟩ : ∃ W1, w.alloc (.cells #[.int .u64 (c : Int), .int .i64 (k : Int), .int .i64 (s : Int), .int .u32 (x : Int), .bool m] HDT) = W1 := ⟨_, rfl⟩
    have b1 : Below w.heap.size w W1 := by rw [← hal1]; exact alloc_bel _ _
    have qA : Blk HDT w.heap.size #[.int .u64 (c : Int), .int .i64 (k : Int), .int .i64 (s : Int), .int .u32 (x : Int), .bool m] W1 := by rw [← hal1]; exact Blk.made _
    have c0 := qA.c 0 _ rfl
    have c1 := qA.c 1 _ rfl
    have c2 := qA.c 2 _ rfl
    have c3 := qA.c 3 _ rfl
    have c4 := qA.c 4 _ rfl
    have QA := Lib.hid qA; have BB := Lib.hid b1
    clear qA b1
    go_enter Try.func63, Try.ntmps63
    go_wp2_with fail
    refine (HC.out _).mono ?_; rintro e w1 ⟨rfl, hb1⟩
    have qB := QA.out.below hb1 QA.out.lt
    have d1 := qB.c 1 _ rfl
    have d2 := qB.c 2 _ rfl
    have BB1 := Lib.hid (BB.out.trans (hb1.mono BB.out.size))
    clear hb1 qB
    go_wp2_with fail
    go_ret
    exact ⟨ret1 (vint (by first | rfl | omega)), BB1.out⟩
set_option maxHeartbeats 400000 in
theorem pointer_ok (n : Nat) (h1 : 1 ≤ n) (h2 : n < 16777216) (w : World) :
    Calls Try.prog 66 #[.int .i64 (n : Int)] w (Done (.tuple #[uV (2 * n), .int .i64 0]) w) := by
  have b1 : decide ((n : Int) < 1) = false := by simp; omega
  have b1' : decide (n < 1) = false := by simp; omega
  have b2 : decide ((16777216 : Int) ≤ n) = false := by simp; omega
  have b2' : decide (16777216 ≤ n) = false := by simp; omega
  have HW := Lib.hid (show IntKind.u64.wrap (IntKind.u64.wrap (n : Int) * 2) = ((2 * n : Nat) : Int) by rw [wrap_u64_eq, wrap_u64_eq]; omega)
  unfold uV
  clear h1 h2
  obtain ⟨q, hq⟩ : ∃ q, ((2 * n : Nat) : Int) = q := ⟨_, rfl⟩
  rw [hq] at HW ⊢
  clear hq
  go_enter Try.func66, Try.ntmps66
  go_wp2_with fail
  go_ret2
  exact ⟨ret2 (vint HW.out) rfl, rfl⟩
/-- May a word be a pointer? -/
def okP (x : Nat) : Bool := !(x % 2 == 1) && !(x == 0) && decide (x / 2 < 16777216)
set_option maxHeartbeats 800000 in
theorem at_any (x : Nat) (hx : x < 18446744073709551616) (w : World) :
    Calls Try.prog 67 #[.int .u64 (x : Int)] w (Done (.tuple #[.int .i64 (if okP x = true then ((x / 2 : Nat) : Int) else 0), .int .i64 (if okP x = true then 0 else 13)]) w) := by
  have HI := Lib.hid (fun w => isw_any x w hx)
  have HX := Lib.hid hx
  clear hx
  by_cases h1 : x % 2 = 1
  · have e1 : (x % 2 == 1) = true := by simpa using h1
    have e2 : okP x = false := by unfold okP; rw [e1]; rfl
    rw [e1] at HI
    rw [if_neg (by rw [e2]; decide), if_neg (by rw [e2]; decide)]
    clear h1 e1 e2
    go_enter Try.func67, Try.ntmps67
    go_wp2_with fail
    refine (HI.out _).mono ?_; rintro e w1 ⟨rfl, rfl⟩
    go_wp2_with fail
    go_ret2
    exact ⟨rfl, rfl⟩
  · have e1 : (x % 2 == 1) = false := by simpa using h1
    rw [e1] at HI
    by_cases h2 : x = 0
    · subst h2
      have e2 : okP 0 = false := rfl
      rw [if_neg (by rw [e2]; decide), if_neg (by rw [e2]; decide)]
      have HI2 : Hid (∀ w, Calls Try.prog 74 #[.int .u64 0] w (Done (.bool false) w)) := Lib.hid HI.out
      clear h1 e1 e2
      go_enter Try.func67, Try.ntmps67
      go_wp2_with fail
      refine (HI2.out _).mono ?_; rintro e w1 ⟨rfl, rfl⟩
      go_wp2_with fail
      go_ret2
      exact ⟨rfl, rfl⟩
    · have e3 : ((x : Int) == 0) = false := by simpa using h2
      have e4 : (x == 0) = false := by simpa using h2
      by_cases h3 : x / 2 < 16777216
      · have e2 : okP x = true := by unfold okP; rw [e1, e4]; simpa using h3
        rw [if_pos e2, if_pos e2]
        have e5 : decide ((16777216 : Int) ≤ (x : Int) / 2) = false := by simp; omega
        have HW := Lib.hid (show wrap64 ((x : Int) / 2) = ((x / 2 : Nat) : Int) by unfold wrap64; omega)
        obtain ⟨q, hq⟩ : ∃ q, ((x / 2 : Nat) : Int) = q := ⟨_, rfl⟩
        rw [hq] at HW ⊢
        clear hq h1 e1 e2 h2 e4 h3
        go_enter Try.func67, Try.ntmps67
        go_wp2_with fail
        refine (HI.out _).mono ?_; rintro e w1 ⟨rfl, rfl⟩
        go_wp2_with fail
        go_ret2
        exact ⟨ret2 (vint HW.out) rfl, rfl⟩
      · have e2 : okP x = false := by unfold okP; rw [e1, e4]; simpa using h3
        rw [if_neg (by rw [e2]; decide), if_neg (by rw [e2]; decide)]
        have e5 : decide ((16777216 : Int) ≤ (x : Int) / 2) = true := by simp; omega
        clear h1 e1 e2 h2 e4 h3
        go_enter Try.func67, Try.ntmps67
        go_wp2_with fail
        refine (HI.out _).mono ?_; rintro e w1 ⟨rfl, rfl⟩
        go_wp2_with fail
        go_ret2
        exact ⟨rfl, rfl⟩
/-! ### pack.Bits -/
theorem wrap_pow (k : Nat) (hk : k < 64) : IntKind.u64.wrap (2 ^ k) = ((2 ^ k : Nat) : Int) := by
  have hp : 2 ^ k < 2 ^ 64 := Nat.pow_lt_pow_right (by omega) hk
  have e : (2 : Int) ^ k = ((2 ^ k : Nat) : Int) := by push_cast; rfl
  rw [e, wrap_u64_eq]
  obtain ⟨p, hp2⟩ : ∃ p, 2 ^ k = p := ⟨_, rfl⟩
  rw [hp2] at hp ⊢
  omega
set_option maxHeartbeats 800000 in
theorem place_in (sb wb n i : Nat) (ws : List Nat) (w : World) (hm : BitsM sb wb n ws w) (hi : i < n) (hn : n ≤ 16777216) :
    Calls Try.prog 77 #[.pointer (some ⟨sb, 0, none⟩), .int .i64 (i : Int)] w (Back (.tuple #[.int .i64 ((i / 64 : Nat) : Int), uV (2 ^ (i % 64)), .bool true]) w) := by
  have c0 := hm.st.c 0 _ rfl
  have hd : decide ((n : Int) ≤ (i : Int)) = false := by simp; omega
  have hd2 : decide (n ≤ i) = false := by simp; omega
  have hd3 : decide ((i : Int) < 0) = false := decide_eq_false (by omega)
  have ha : bits .and .i64 (i : Int) 63 = ((i % 64 : Nat) : Int) := i64_and63 i
  have hr : (0 : Int) ≤ ((i % 64 : Nat) : Int) := by omega
  have HW := Lib.hid (wrap_pow (i % 64) (Nat.mod_lt _ (by omega)))
  clear hm hi hn
  go_enter Try.func77, Try.ntmps77
  go_wp2_with fail
  go_quiet (fail)
  go_wp2_with fail
  go_ret3
  exact ⟨ret3 (vint (by omega)) (vint HW.out) rfl, below_drewN _ _⟩
set_option maxHeartbeats 800000 in
theorem place_out (sb wb n : Nat) (i : Int) (ws : List Nat) (w : World) (hm : BitsM sb wb n ws w) (hi : i < 0 ∨ (n : Int) ≤ i) :
    Calls Try.prog 77 #[.pointer (some ⟨sb, 0, none⟩), .int .i64 i] w (Back (.tuple #[.int .i64 0, uV 0, .bool false]) w) := by
  have c0 := hm.st.c 0 _ rfl
  by_cases h0 : i < 0
  · have hd3 : decide (i < 0) = true := by simpa using h0
    clear hm hi
    go_enter Try.func77, Try.ntmps77
    go_wp2_with fail
    go_ret3
    exact ⟨rfl, Below.refl _ _⟩
  · have hd3 : decide (i < 0) = false := by simpa using h0
    have hd : decide ((n : Int) ≤ i) = true := by simp; omega
    have h1 : (n : Int) ≤ i := by omega
    clear hm hi h0
    go_enter Try.func77, Try.ntmps77
    go_wp2_with fail
    go_ret3
    exact ⟨rfl, Below.refl _ _⟩
end Hp
end Go.Proofs.Ytojblndlchcjeaa
