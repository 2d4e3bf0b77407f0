/- Contracts of package small's reckoning, on the words of numbers: what each rule comes to; then the exported functions. Printed by wip/gen/gen_sm.py. -/
import Derived.Test.YtmmgpmdjpbalfaaDoorSmWalk
import Derived.Deep.RegionWith
namespace Go.Proofs.YtmmgpmdjpbalfaaDoor
open Go.RowKit
namespace Sm
/-- A rule's answer; the world stays. -/
def Ruled (r e : Int) (w : World) (x : Ending) (w' : World) : Prop := x = .returned (.tuple #[.int .i64 r, .int .i64 e]) ∧ w = w'
/-- One value; the world stays. -/
def Done (x : Value) (w : World) (e : Ending) (w' : World) : Prop := e = .returned x ∧ w = w'
/-- A word and an error; new blocks alone. -/
def Out2 (x e : Int) (w : World) (en : Ending) (w' : World) : Prop := en = .returned (.tuple #[.int .u64 x, .int .i64 e]) ∧ Below w.heap.size w w'

set_option maxHeartbeats 1000000 in
theorem do_kind (a b : Int) (fv : Value) (w : World) (ha : 0 ≤ a) (ha' : a ≤ 18446744073709551615) (hb : 0 ≤ b) (hb' : b ≤ 18446744073709551615) (h : isw a = false ∨ isw b = false) :
    Calls Tryd.prog 35 #[.int .u64 a, .int .u64 b, fv] w (Done (.tuple #[.int .u64 0, .int .i64 13]) w) := by
  cases hq : isw a
  · have H := Lib.hid hq; clear hq h
    go_enter Tryd.func35, Tryd.ntmps35
    go_wp2_with (go_at_call 15; go_must (refine (is_no _ _ ha ha' H.out).mono ?_); rintro e w' ⟨rfl, rfl⟩)
    go_ret2
    exact ⟨rfl, rfl⟩
  · have h' : isw b = false := by simpa [hq] using h
    have H := Lib.hid hq; clear hq h
    have H' := Lib.hid h'; clear h'
    go_enter Tryd.func35, Tryd.ntmps35
    go_wp2_with fail
    refine (is_yes _ _ ha ha' H.out).mono ?_; rintro e w' ⟨rfl, rfl⟩
    go_wp2_with fail
    refine (is_no _ _ hb hb' H'.out).mono ?_; rintro e w' ⟨rfl, rfl⟩
    go_wp2_with fail
    go_ret2
    exact ⟨rfl, rfl⟩

set_option maxHeartbeats 1000000 in
theorem do_ok_plain (x y r : Int) (p : Addr) (w : World) (hx : Inr x) (hy : Inr y) (hr : Inr r)
    (hc : Calls Tryd.prog 57 #[.int .i64 x, .int .i64 y, .pointer (some p)] w (Ruled r 0 w)) :
    Calls Tryd.prog 35 #[.int .u64 (wd x), .int .u64 (wd y), .func (Fn.func 57) #[] #[.pointer (some p)]] w (Done (.tuple #[.int .u64 (wd r), .int .i64 0]) w) := by
  have H := Lib.hid hc; clear hc
  have ex := shr_wd hx
  have ey := shr_wd hy
  go_enter Tryd.func35, Tryd.ntmps35
  go_wp2_with (first
    | (go_at_call 15; go_must (refine (is_wd _ _).mono ?_); rintro e w' ⟨rfl, rfl⟩)
    | (go_at_call 57; go_must (refine H.out.mono ?_); rintro e w' ⟨rfl, rfl⟩)
    | (go_at_call 11; go_must (refine (of_in _ _ hr).mono ?_); rintro e w' ⟨rfl, rfl⟩))
  go_ret2
  exact ⟨rfl, rfl⟩

set_option maxHeartbeats 1000000 in
theorem do_over_plain (x y r : Int) (p : Addr) (w : World) (hx : Inr x) (hy : Inr y) (hr : ¬ Inr r) (r1 : -9223372036854775808 ≤ r) (r2 : r ≤ 9223372036854775807)
    (hc : Calls Tryd.prog 57 #[.int .i64 x, .int .i64 y, .pointer (some p)] w (Ruled r 0 w)) :
    Calls Tryd.prog 35 #[.int .u64 (wd x), .int .u64 (wd y), .func (Fn.func 57) #[] #[.pointer (some p)]] w (Done (.tuple #[.int .u64 (0), .int .i64 9]) w) := by
  have H := Lib.hid hc; clear hc
  have ex := shr_wd hx
  have ey := shr_wd hy
  go_enter Tryd.func35, Tryd.ntmps35
  go_wp2_with (first
    | (go_at_call 15; go_must (refine (is_wd _ _).mono ?_); rintro e w' ⟨rfl, rfl⟩)
    | (go_at_call 57; go_must (refine H.out.mono ?_); rintro e w' ⟨rfl, rfl⟩)
    | (go_at_call 11; go_must (refine (of_out _ _ hr r1 r2).mono ?_); rintro e w' ⟨rfl, rfl⟩))
  go_ret2
  exact ⟨rfl, rfl⟩

set_option maxHeartbeats 1000000 in
theorem do_fail_plain (x y r er : Int) (p : Addr) (w : World) (hx : Inr x) (hy : Inr y) (he : (er != 0) = true)
    (hc : Calls Tryd.prog 57 #[.int .i64 x, .int .i64 y, .pointer (some p)] w (Ruled r er w)) :
    Calls Tryd.prog 35 #[.int .u64 (wd x), .int .u64 (wd y), .func (Fn.func 57) #[] #[.pointer (some p)]] w (Done (.tuple #[.int .u64 (0), .int .i64 er]) w) := by
  have H := Lib.hid hc; clear hc
  have ex := shr_wd hx
  have ey := shr_wd hy
  go_enter Tryd.func35, Tryd.ntmps35
  go_wp2_with (first
    | (go_at_call 15; go_must (refine (is_wd _ _).mono ?_); rintro e w' ⟨rfl, rfl⟩)
    | (go_at_call 57; go_must (refine H.out.mono ?_); rintro e w' ⟨rfl, rfl⟩))
  go_ret2
  exact ⟨rfl, rfl⟩

set_option maxHeartbeats 1000000 in
theorem do_ok_parted (x y r : Int) (p : Addr) (w : World) (hx : Inr x) (hy : Inr y) (hr : Inr r)
    (hc : Calls Tryd.prog 58 #[.int .i64 x, .int .i64 y, .pointer (some p)] w (Ruled r 0 w)) :
    Calls Tryd.prog 35 #[.int .u64 (wd x), .int .u64 (wd y), .func (Fn.func 58) #[] #[.pointer (some p)]] w (Done (.tuple #[.int .u64 (wd r), .int .i64 0]) w) := by
  have H := Lib.hid hc; clear hc
  have ex := shr_wd hx
  have ey := shr_wd hy
  go_enter Tryd.func35, Tryd.ntmps35
  go_wp2_with (first
    | (go_at_call 15; go_must (refine (is_wd _ _).mono ?_); rintro e w' ⟨rfl, rfl⟩)
    | (go_at_call 58; go_must (refine H.out.mono ?_); rintro e w' ⟨rfl, rfl⟩)
    | (go_at_call 11; go_must (refine (of_in _ _ hr).mono ?_); rintro e w' ⟨rfl, rfl⟩))
  go_ret2
  exact ⟨rfl, rfl⟩

set_option maxHeartbeats 1000000 in
theorem do_over_parted (x y r : Int) (p : Addr) (w : World) (hx : Inr x) (hy : Inr y) (hr : ¬ Inr r) (r1 : -9223372036854775808 ≤ r) (r2 : r ≤ 9223372036854775807)
    (hc : Calls Tryd.prog 58 #[.int .i64 x, .int .i64 y, .pointer (some p)] w (Ruled r 0 w)) :
    Calls Tryd.prog 35 #[.int .u64 (wd x), .int .u64 (wd y), .func (Fn.func 58) #[] #[.pointer (some p)]] w (Done (.tuple #[.int .u64 (0), .int .i64 9]) w) := by
  have H := Lib.hid hc; clear hc
  have ex := shr_wd hx
  have ey := shr_wd hy
  go_enter Tryd.func35, Tryd.ntmps35
  go_wp2_with (first
    | (go_at_call 15; go_must (refine (is_wd _ _).mono ?_); rintro e w' ⟨rfl, rfl⟩)
    | (go_at_call 58; go_must (refine H.out.mono ?_); rintro e w' ⟨rfl, rfl⟩)
    | (go_at_call 11; go_must (refine (of_out _ _ hr r1 r2).mono ?_); rintro e w' ⟨rfl, rfl⟩))
  go_ret2
  exact ⟨rfl, rfl⟩

set_option maxHeartbeats 1000000 in
theorem do_fail_parted (x y r er : Int) (p : Addr) (w : World) (hx : Inr x) (hy : Inr y) (he : (er != 0) = true)
    (hc : Calls Tryd.prog 58 #[.int .i64 x, .int .i64 y, .pointer (some p)] w (Ruled r er w)) :
    Calls Tryd.prog 35 #[.int .u64 (wd x), .int .u64 (wd y), .func (Fn.func 58) #[] #[.pointer (some p)]] w (Done (.tuple #[.int .u64 (0), .int .i64 er]) w) := by
  have H := Lib.hid hc; clear hc
  have ex := shr_wd hx
  have ey := shr_wd hy
  go_enter Tryd.func35, Tryd.ntmps35
  go_wp2_with (first
    | (go_at_call 15; go_must (refine (is_wd _ _).mono ?_); rintro e w' ⟨rfl, rfl⟩)
    | (go_at_call 58; go_must (refine H.out.mono ?_); rintro e w' ⟨rfl, rfl⟩))
  go_ret2
  exact ⟨rfl, rfl⟩

set_option maxHeartbeats 1000000 in
theorem do_ok_times (x y r : Int) (w : World) (hx : Inr x) (hy : Inr y) (hr : Inr r)
    (hc : Calls Tryd.prog 60 #[.int .i64 x, .int .i64 y] w (Ruled r 0 w)) :
    Calls Tryd.prog 35 #[.int .u64 (wd x), .int .u64 (wd y), .func (Fn.func 60) #[] #[]] w (Done (.tuple #[.int .u64 (wd r), .int .i64 0]) w) := by
  have H := Lib.hid hc; clear hc
  have ex := shr_wd hx
  have ey := shr_wd hy
  go_enter Tryd.func35, Tryd.ntmps35
  go_wp2_with (first
    | (go_at_call 15; go_must (refine (is_wd _ _).mono ?_); rintro e w' ⟨rfl, rfl⟩)
    | (go_at_call 60; go_must (refine H.out.mono ?_); rintro e w' ⟨rfl, rfl⟩)
    | (go_at_call 11; go_must (refine (of_in _ _ hr).mono ?_); rintro e w' ⟨rfl, rfl⟩))
  go_ret2
  exact ⟨rfl, rfl⟩

set_option maxHeartbeats 1000000 in
theorem do_over_times (x y r : Int) (w : World) (hx : Inr x) (hy : Inr y) (hr : ¬ Inr r) (r1 : -9223372036854775808 ≤ r) (r2 : r ≤ 9223372036854775807)
    (hc : Calls Tryd.prog 60 #[.int .i64 x, .int .i64 y] w (Ruled r 0 w)) :
    Calls Tryd.prog 35 #[.int .u64 (wd x), .int .u64 (wd y), .func (Fn.func 60) #[] #[]] w (Done (.tuple #[.int .u64 (0), .int .i64 9]) w) := by
  have H := Lib.hid hc; clear hc
  have ex := shr_wd hx
  have ey := shr_wd hy
  go_enter Tryd.func35, Tryd.ntmps35
  go_wp2_with (first
    | (go_at_call 15; go_must (refine (is_wd _ _).mono ?_); rintro e w' ⟨rfl, rfl⟩)
    | (go_at_call 60; go_must (refine H.out.mono ?_); rintro e w' ⟨rfl, rfl⟩)
    | (go_at_call 11; go_must (refine (of_out _ _ hr r1 r2).mono ?_); rintro e w' ⟨rfl, rfl⟩))
  go_ret2
  exact ⟨rfl, rfl⟩

set_option maxHeartbeats 1000000 in
theorem do_fail_times (x y r er : Int) (w : World) (hx : Inr x) (hy : Inr y) (he : (er != 0) = true)
    (hc : Calls Tryd.prog 60 #[.int .i64 x, .int .i64 y] w (Ruled r er w)) :
    Calls Tryd.prog 35 #[.int .u64 (wd x), .int .u64 (wd y), .func (Fn.func 60) #[] #[]] w (Done (.tuple #[.int .u64 (0), .int .i64 er]) w) := by
  have H := Lib.hid hc; clear hc
  have ex := shr_wd hx
  have ey := shr_wd hy
  go_enter Tryd.func35, Tryd.ntmps35
  go_wp2_with (first
    | (go_at_call 15; go_must (refine (is_wd _ _).mono ?_); rintro e w' ⟨rfl, rfl⟩)
    | (go_at_call 60; go_must (refine H.out.mono ?_); rintro e w' ⟨rfl, rfl⟩))
  go_ret2
  exact ⟨rfl, rfl⟩

set_option maxHeartbeats 1000000 in
theorem do_ok_shift (x y r : Int) (w : World) (hx : Inr x) (hy : Inr y) (hr : Inr r)
    (hc : Calls Tryd.prog 47 #[.int .i64 x, .int .i64 y] w (Ruled r 0 w)) :
    Calls Tryd.prog 35 #[.int .u64 (wd x), .int .u64 (wd y), .func (Fn.func 47) #[] #[]] w (Done (.tuple #[.int .u64 (wd r), .int .i64 0]) w) := by
  have H := Lib.hid hc; clear hc
  have ex := shr_wd hx
  have ey := shr_wd hy
  go_enter Tryd.func35, Tryd.ntmps35
  go_wp2_with (first
    | (go_at_call 15; go_must (refine (is_wd _ _).mono ?_); rintro e w' ⟨rfl, rfl⟩)
    | (go_at_call 47; go_must (refine H.out.mono ?_); rintro e w' ⟨rfl, rfl⟩)
    | (go_at_call 11; go_must (refine (of_in _ _ hr).mono ?_); rintro e w' ⟨rfl, rfl⟩))
  go_ret2
  exact ⟨rfl, rfl⟩

set_option maxHeartbeats 1000000 in
theorem do_over_shift (x y r : Int) (w : World) (hx : Inr x) (hy : Inr y) (hr : ¬ Inr r) (r1 : -9223372036854775808 ≤ r) (r2 : r ≤ 9223372036854775807)
    (hc : Calls Tryd.prog 47 #[.int .i64 x, .int .i64 y] w (Ruled r 0 w)) :
    Calls Tryd.prog 35 #[.int .u64 (wd x), .int .u64 (wd y), .func (Fn.func 47) #[] #[]] w (Done (.tuple #[.int .u64 (0), .int .i64 9]) w) := by
  have H := Lib.hid hc; clear hc
  have ex := shr_wd hx
  have ey := shr_wd hy
  go_enter Tryd.func35, Tryd.ntmps35
  go_wp2_with (first
    | (go_at_call 15; go_must (refine (is_wd _ _).mono ?_); rintro e w' ⟨rfl, rfl⟩)
    | (go_at_call 47; go_must (refine H.out.mono ?_); rintro e w' ⟨rfl, rfl⟩)
    | (go_at_call 11; go_must (refine (of_out _ _ hr r1 r2).mono ?_); rintro e w' ⟨rfl, rfl⟩))
  go_ret2
  exact ⟨rfl, rfl⟩

set_option maxHeartbeats 1000000 in
theorem do_fail_shift (x y r er : Int) (w : World) (hx : Inr x) (hy : Inr y) (he : (er != 0) = true)
    (hc : Calls Tryd.prog 47 #[.int .i64 x, .int .i64 y] w (Ruled r er w)) :
    Calls Tryd.prog 35 #[.int .u64 (wd x), .int .u64 (wd y), .func (Fn.func 47) #[] #[]] w (Done (.tuple #[.int .u64 (0), .int .i64 er]) w) := by
  have H := Lib.hid hc; clear hc
  have ex := shr_wd hx
  have ey := shr_wd hy
  go_enter Tryd.func35, Tryd.ntmps35
  go_wp2_with (first
    | (go_at_call 15; go_must (refine (is_wd _ _).mono ?_); rintro e w' ⟨rfl, rfl⟩)
    | (go_at_call 47; go_must (refine H.out.mono ?_); rintro e w' ⟨rfl, rfl⟩))
  go_ret2
  exact ⟨rfl, rfl⟩

set_option maxHeartbeats 1000000 in
theorem add_rule (x y : Int) (w : World) (hx : Inr x) (hy : Inr y) :
    Calls Tryd.prog 41 #[.int .i64 x, .int .i64 y] w (Done (.int .i64 (x + y)) w) := by
  obtain ⟨x1, x2⟩ := hx
  obtain ⟨y1, y2⟩ := hy
  go_enter Tryd.func41, Tryd.ntmps41
  go_wp2
  go_ret
  exact ⟨rfl, rfl⟩
set_option maxHeartbeats 1000000 in
theorem add_plain (x y r : Int) (p : Addr) (w : World) (hp : w.cell? p = some (.func (Fn.func 41) #[] #[]))
    (hc : Calls Tryd.prog 41 #[.int .i64 x, .int .i64 y] w (Done (.int .i64 r) w)) :
    Calls Tryd.prog 57 #[.int .i64 x, .int .i64 y, .pointer (some p)] w (Ruled r 0 w) := by
  have H := Lib.hid hc; clear hc
  go_enter Tryd.func57, Tryd.ntmps57
  go_wp2_with ((with_reducible refine H.out.mono ?_); rintro e w' ⟨rfl, rfl⟩)
  go_ret2
  exact ⟨rfl, rfl⟩

set_option maxHeartbeats 1000000 in
theorem sub_rule (x y : Int) (w : World) (hx : Inr x) (hy : Inr y) :
    Calls Tryd.prog 37 #[.int .i64 x, .int .i64 y] w (Done (.int .i64 (x - y)) w) := by
  obtain ⟨x1, x2⟩ := hx
  obtain ⟨y1, y2⟩ := hy
  go_enter Tryd.func37, Tryd.ntmps37
  go_wp2
  go_ret
  exact ⟨rfl, rfl⟩
set_option maxHeartbeats 1000000 in
theorem sub_plain (x y r : Int) (p : Addr) (w : World) (hp : w.cell? p = some (.func (Fn.func 37) #[] #[]))
    (hc : Calls Tryd.prog 37 #[.int .i64 x, .int .i64 y] w (Done (.int .i64 r) w)) :
    Calls Tryd.prog 57 #[.int .i64 x, .int .i64 y, .pointer (some p)] w (Ruled r 0 w) := by
  have H := Lib.hid hc; clear hc
  go_enter Tryd.func57, Tryd.ntmps57
  go_wp2_with ((with_reducible refine H.out.mono ?_); rintro e w' ⟨rfl, rfl⟩)
  go_ret2
  exact ⟨rfl, rfl⟩

set_option maxHeartbeats 1000000 in
theorem and_rule (x y : Int) (w : World) (hx : Inr x) (hy : Inr y) :
    Calls Tryd.prog 38 #[.int .i64 x, .int .i64 y] w (Done (.int .i64 (bits .and .i64 x y)) w) := by
  obtain ⟨x1, x2⟩ := hx
  obtain ⟨y1, y2⟩ := hy
  go_enter Tryd.func38, Tryd.ntmps38
  go_wp2
  go_ret
  exact ⟨rfl, rfl⟩
set_option maxHeartbeats 1000000 in
theorem and_plain (x y r : Int) (p : Addr) (w : World) (hp : w.cell? p = some (.func (Fn.func 38) #[] #[]))
    (hc : Calls Tryd.prog 38 #[.int .i64 x, .int .i64 y] w (Done (.int .i64 r) w)) :
    Calls Tryd.prog 57 #[.int .i64 x, .int .i64 y, .pointer (some p)] w (Ruled r 0 w) := by
  have H := Lib.hid hc; clear hc
  go_enter Tryd.func57, Tryd.ntmps57
  go_wp2_with ((with_reducible refine H.out.mono ?_); rintro e w' ⟨rfl, rfl⟩)
  go_ret2
  exact ⟨rfl, rfl⟩

set_option maxHeartbeats 1000000 in
theorem or_rule (x y : Int) (w : World) (hx : Inr x) (hy : Inr y) :
    Calls Tryd.prog 39 #[.int .i64 x, .int .i64 y] w (Done (.int .i64 (bits .or .i64 x y)) w) := by
  obtain ⟨x1, x2⟩ := hx
  obtain ⟨y1, y2⟩ := hy
  go_enter Tryd.func39, Tryd.ntmps39
  go_wp2
  go_ret
  exact ⟨rfl, rfl⟩
set_option maxHeartbeats 1000000 in
theorem or_plain (x y r : Int) (p : Addr) (w : World) (hp : w.cell? p = some (.func (Fn.func 39) #[] #[]))
    (hc : Calls Tryd.prog 39 #[.int .i64 x, .int .i64 y] w (Done (.int .i64 r) w)) :
    Calls Tryd.prog 57 #[.int .i64 x, .int .i64 y, .pointer (some p)] w (Ruled r 0 w) := by
  have H := Lib.hid hc; clear hc
  go_enter Tryd.func57, Tryd.ntmps57
  go_wp2_with ((with_reducible refine H.out.mono ?_); rintro e w' ⟨rfl, rfl⟩)
  go_ret2
  exact ⟨rfl, rfl⟩

set_option maxHeartbeats 1000000 in
theorem xor_rule (x y : Int) (w : World) (hx : Inr x) (hy : Inr y) :
    Calls Tryd.prog 40 #[.int .i64 x, .int .i64 y] w (Done (.int .i64 (bits .xor .i64 x y)) w) := by
  obtain ⟨x1, x2⟩ := hx
  obtain ⟨y1, y2⟩ := hy
  go_enter Tryd.func40, Tryd.ntmps40
  go_wp2
  go_ret
  exact ⟨rfl, rfl⟩
set_option maxHeartbeats 1000000 in
theorem xor_plain (x y r : Int) (p : Addr) (w : World) (hp : w.cell? p = some (.func (Fn.func 40) #[] #[]))
    (hc : Calls Tryd.prog 40 #[.int .i64 x, .int .i64 y] w (Done (.int .i64 r) w)) :
    Calls Tryd.prog 57 #[.int .i64 x, .int .i64 y, .pointer (some p)] w (Ruled r 0 w) := by
  have H := Lib.hid hc; clear hc
  go_enter Tryd.func57, Tryd.ntmps57
  go_wp2_with ((with_reducible refine H.out.mono ?_); rintro e w' ⟨rfl, rfl⟩)
  go_ret2
  exact ⟨rfl, rfl⟩

set_option maxHeartbeats 1000000 in
theorem add_ok (x y : Int) (w : World) (hx : Inr x) (hy : Inr y) (h : Inr (x + y)) :
    Calls Tryd.prog 23 #[.int .u64 (wd x), .int .u64 (wd y)] w (Out2 (wd (x + y)) 0 w) := by
  go_enter Tryd.func23, Tryd.ntmps23
  go_wp2_with (first
   | (go_at_call 35; go_must (refine (do_ok_plain x y (x + y) _ _ hx hy h (add_plain _ _ _ _ _ (by go_simp) (add_rule _ _ _ hx hy))).mono ?_); rintro e w' ⟨rfl, rfl⟩)
   | go_in)
  go_ret2
  exact ⟨rfl, (Below.refl _ _).alloc (Nat.le_refl _) _⟩

set_option maxHeartbeats 1000000 in
theorem add_over (x y : Int) (w : World) (hx : Inr x) (hy : Inr y) (h : ¬ Inr (x + y)) :
    Calls Tryd.prog 23 #[.int .u64 (wd x), .int .u64 (wd y)] w (Out2 (0) 9 w) := by
  go_enter Tryd.func23, Tryd.ntmps23
  go_wp2_with (first
   | (go_at_call 35; go_must (refine (do_over_plain x y (x + y) _ _ hx hy h (by unfold Inr at hx hy; omega) (by unfold Inr at hx hy; omega) (add_plain _ _ _ _ _ (by go_simp) (add_rule _ _ _ hx hy))).mono ?_); rintro e w' ⟨rfl, rfl⟩)
   | go_in)
  go_ret2
  exact ⟨rfl, (Below.refl _ _).alloc (Nat.le_refl _) _⟩

set_option maxHeartbeats 1000000 in
theorem sub_ok (x y : Int) (w : World) (hx : Inr x) (hy : Inr y) (h : Inr (x - y)) :
    Calls Tryd.prog 19 #[.int .u64 (wd x), .int .u64 (wd y)] w (Out2 (wd (x - y)) 0 w) := by
  go_enter Tryd.func19, Tryd.ntmps19
  go_wp2_with (first
   | (go_at_call 35; go_must (refine (do_ok_plain x y (x - y) _ _ hx hy h (sub_plain _ _ _ _ _ (by go_simp) (sub_rule _ _ _ hx hy))).mono ?_); rintro e w' ⟨rfl, rfl⟩)
   | go_in)
  go_ret2
  exact ⟨rfl, (Below.refl _ _).alloc (Nat.le_refl _) _⟩

set_option maxHeartbeats 1000000 in
theorem sub_over (x y : Int) (w : World) (hx : Inr x) (hy : Inr y) (h : ¬ Inr (x - y)) :
    Calls Tryd.prog 19 #[.int .u64 (wd x), .int .u64 (wd y)] w (Out2 (0) 9 w) := by
  go_enter Tryd.func19, Tryd.ntmps19
  go_wp2_with (first
   | (go_at_call 35; go_must (refine (do_over_plain x y (x - y) _ _ hx hy h (by unfold Inr at hx hy; omega) (by unfold Inr at hx hy; omega) (sub_plain _ _ _ _ _ (by go_simp) (sub_rule _ _ _ hx hy))).mono ?_); rintro e w' ⟨rfl, rfl⟩)
   | go_in)
  go_ret2
  exact ⟨rfl, (Below.refl _ _).alloc (Nat.le_refl _) _⟩

set_option maxHeartbeats 1000000 in
theorem and_ok (x y : Int) (w : World) (hx : Inr x) (hy : Inr y) (h : Inr (bits .and .i64 x y)) :
    Calls Tryd.prog 20 #[.int .u64 (wd x), .int .u64 (wd y)] w (Out2 (wd (bits .and .i64 x y)) 0 w) := by
  go_enter Tryd.func20, Tryd.ntmps20
  go_wp2_with (first
   | (go_at_call 35; go_must (refine (do_ok_plain x y (bits .and .i64 x y) _ _ hx hy h (and_plain _ _ _ _ _ (by go_simp) (and_rule _ _ _ hx hy))).mono ?_); rintro e w' ⟨rfl, rfl⟩)
   | go_in)
  go_ret2
  exact ⟨rfl, (Below.refl _ _).alloc (Nat.le_refl _) _⟩

set_option maxHeartbeats 1000000 in
theorem or_ok (x y : Int) (w : World) (hx : Inr x) (hy : Inr y) (h : Inr (bits .or .i64 x y)) :
    Calls Tryd.prog 21 #[.int .u64 (wd x), .int .u64 (wd y)] w (Out2 (wd (bits .or .i64 x y)) 0 w) := by
  go_enter Tryd.func21, Tryd.ntmps21
  go_wp2_with (first
   | (go_at_call 35; go_must (refine (do_ok_plain x y (bits .or .i64 x y) _ _ hx hy h (or_plain _ _ _ _ _ (by go_simp) (or_rule _ _ _ hx hy))).mono ?_); rintro e w' ⟨rfl, rfl⟩)
   | go_in)
  go_ret2
  exact ⟨rfl, (Below.refl _ _).alloc (Nat.le_refl _) _⟩

set_option maxHeartbeats 1000000 in
theorem xor_ok (x y : Int) (w : World) (hx : Inr x) (hy : Inr y) (h : Inr (bits .xor .i64 x y)) :
    Calls Tryd.prog 22 #[.int .u64 (wd x), .int .u64 (wd y)] w (Out2 (wd (bits .xor .i64 x y)) 0 w) := by
  go_enter Tryd.func22, Tryd.ntmps22
  go_wp2_with (first
   | (go_at_call 35; go_must (refine (do_ok_plain x y (bits .xor .i64 x y) _ _ hx hy h (xor_plain _ _ _ _ _ (by go_simp) (xor_rule _ _ _ hx hy))).mono ?_); rintro e w' ⟨rfl, rfl⟩)
   | go_in)
  go_ret2
  exact ⟨rfl, (Below.refl _ _).alloc (Nat.le_refl _) _⟩

set_option maxHeartbeats 1000000 in
theorem floor_parted (x y r : Int) (p : Addr) (w : World) (hp : w.cell? p = some (.func (Fn.func 43) #[] #[])) (hy : (y == 0) = false)
    (hc : Calls Tryd.prog 43 #[.int .i64 x, .int .i64 y] w (Done (.int .i64 r) w)) :
    Calls Tryd.prog 58 #[.int .i64 x, .int .i64 y, .pointer (some p)] w (Ruled r 0 w) := by
  have H := Lib.hid hc; clear hc
  go_enter Tryd.func58, Tryd.ntmps58
  go_wp2_with ((with_reducible refine H.out.mono ?_); rintro e w' ⟨rfl, rfl⟩)
  go_ret2
  exact ⟨rfl, rfl⟩

set_option maxHeartbeats 1000000 in
theorem mod_parted (x y r : Int) (p : Addr) (w : World) (hp : w.cell? p = some (.func (Fn.func 44) #[] #[])) (hy : (y == 0) = false)
    (hc : Calls Tryd.prog 44 #[.int .i64 x, .int .i64 y] w (Done (.int .i64 r) w)) :
    Calls Tryd.prog 58 #[.int .i64 x, .int .i64 y, .pointer (some p)] w (Ruled r 0 w) := by
  have H := Lib.hid hc; clear hc
  go_enter Tryd.func58, Tryd.ntmps58
  go_wp2_with ((with_reducible refine H.out.mono ?_); rintro e w' ⟨rfl, rfl⟩)
  go_ret2
  exact ⟨rfl, rfl⟩

set_option maxHeartbeats 1000000 in
theorem quo_parted (x y r : Int) (p : Addr) (w : World) (hp : w.cell? p = some (.func (Fn.func 45) #[] #[])) (hy : (y == 0) = false)
    (hc : Calls Tryd.prog 45 #[.int .i64 x, .int .i64 y] w (Done (.int .i64 r) w)) :
    Calls Tryd.prog 58 #[.int .i64 x, .int .i64 y, .pointer (some p)] w (Ruled r 0 w) := by
  have H := Lib.hid hc; clear hc
  go_enter Tryd.func58, Tryd.ntmps58
  go_wp2_with ((with_reducible refine H.out.mono ?_); rintro e w' ⟨rfl, rfl⟩)
  go_ret2
  exact ⟨rfl, rfl⟩

set_option maxHeartbeats 1000000 in
theorem rem_parted (x y r : Int) (p : Addr) (w : World) (hp : w.cell? p = some (.func (Fn.func 46) #[] #[])) (hy : (y == 0) = false)
    (hc : Calls Tryd.prog 46 #[.int .i64 x, .int .i64 y] w (Done (.int .i64 r) w)) :
    Calls Tryd.prog 58 #[.int .i64 x, .int .i64 y, .pointer (some p)] w (Ruled r 0 w) := by
  have H := Lib.hid hc; clear hc
  go_enter Tryd.func58, Tryd.ntmps58
  go_wp2_with ((with_reducible refine H.out.mono ?_); rintro e w' ⟨rfl, rfl⟩)
  go_ret2
  exact ⟨rfl, rfl⟩

set_option maxHeartbeats 1000000 in
theorem parted_nought (x : Int) (p : Addr) (w : World) :
    Calls Tryd.prog 58 #[.int .i64 x, .int .i64 0, .pointer (some p)] w (Ruled 0 1 w) := by
  go_enter Tryd.func58, Tryd.ntmps58
  go_wp2
  go_ret2
  exact ⟨rfl, rfl⟩

set_option maxHeartbeats 1000000 in
theorem floor_ok (x y : Int) (w : World) (hx : Inr x) (hy : Inr y) (r : Int) (hn : (y == 0) = false) (hc : ∀ w, Calls Tryd.prog 43 #[.int .i64 x, .int .i64 y] w (Done (.int .i64 r) w)) (h : Inr r) :
    Calls Tryd.prog 24 #[.int .u64 (wd x), .int .u64 (wd y)] w (Out2 (wd r) 0 w) := by
  have H := Lib.hid hc; clear hc
  go_enter Tryd.func24, Tryd.ntmps24
  go_wp2_with (first
   | (go_at_call 35; go_must (refine (do_ok_parted x y r _ _ hx hy h (floor_parted _ _ _ _ _ (by go_simp) hn (H.out _))).mono ?_); rintro e w' ⟨rfl, rfl⟩)
   | go_in)
  go_ret2
  exact ⟨rfl, (Below.refl _ _).alloc (Nat.le_refl _) _⟩

set_option maxHeartbeats 1000000 in
theorem floor_over (x y : Int) (w : World) (hx : Inr x) (hy : Inr y) (r : Int) (hn : (y == 0) = false) (hc : ∀ w, Calls Tryd.prog 43 #[.int .i64 x, .int .i64 y] w (Done (.int .i64 r) w)) (h : ¬ Inr r) (r1 : -9223372036854775808 ≤ r) (r2 : r ≤ 9223372036854775807) :
    Calls Tryd.prog 24 #[.int .u64 (wd x), .int .u64 (wd y)] w (Out2 (0) 9 w) := by
  have H := Lib.hid hc; clear hc
  go_enter Tryd.func24, Tryd.ntmps24
  go_wp2_with (first
   | (go_at_call 35; go_must (refine (do_over_parted x y r _ _ hx hy h r1 r2 (floor_parted _ _ _ _ _ (by go_simp) hn (H.out _))).mono ?_); rintro e w' ⟨rfl, rfl⟩)
   | go_in)
  go_ret2
  exact ⟨rfl, (Below.refl _ _).alloc (Nat.le_refl _) _⟩

set_option maxHeartbeats 1000000 in
theorem floor_nought (x : Int) (w : World) (hx : Inr x) :
    Calls Tryd.prog 24 #[.int .u64 (wd x), .int .u64 (wd 0)] w (Out2 0 1 w) := by
  go_enter Tryd.func24, Tryd.ntmps24
  go_wp2_with (first
   | (go_at_call 35; go_must (refine (do_fail_parted x 0 0 1 _ _ hx ⟨by omega, by omega⟩ rfl (parted_nought _ _ _)).mono ?_); rintro e w' ⟨rfl, rfl⟩)
   | go_in)
  go_ret2
  exact ⟨rfl, (Below.refl _ _).alloc (Nat.le_refl _) _⟩

set_option maxHeartbeats 1000000 in
theorem mod_ok (x y : Int) (w : World) (hx : Inr x) (hy : Inr y) (r : Int) (hn : (y == 0) = false) (hc : ∀ w, Calls Tryd.prog 44 #[.int .i64 x, .int .i64 y] w (Done (.int .i64 r) w)) (h : Inr r) :
    Calls Tryd.prog 25 #[.int .u64 (wd x), .int .u64 (wd y)] w (Out2 (wd r) 0 w) := by
  have H := Lib.hid hc; clear hc
  go_enter Tryd.func25, Tryd.ntmps25
  go_wp2_with (first
   | (go_at_call 35; go_must (refine (do_ok_parted x y r _ _ hx hy h (mod_parted _ _ _ _ _ (by go_simp) hn (H.out _))).mono ?_); rintro e w' ⟨rfl, rfl⟩)
   | go_in)
  go_ret2
  exact ⟨rfl, (Below.refl _ _).alloc (Nat.le_refl _) _⟩

set_option maxHeartbeats 1000000 in
theorem mod_over (x y : Int) (w : World) (hx : Inr x) (hy : Inr y) (r : Int) (hn : (y == 0) = false) (hc : ∀ w, Calls Tryd.prog 44 #[.int .i64 x, .int .i64 y] w (Done (.int .i64 r) w)) (h : ¬ Inr r) (r1 : -9223372036854775808 ≤ r) (r2 : r ≤ 9223372036854775807) :
    Calls Tryd.prog 25 #[.int .u64 (wd x), .int .u64 (wd y)] w (Out2 (0) 9 w) := by
  have H := Lib.hid hc; clear hc
  go_enter Tryd.func25, Tryd.ntmps25
  go_wp2_with (first
   | (go_at_call 35; go_must (refine (do_over_parted x y r _ _ hx hy h r1 r2 (mod_parted _ _ _ _ _ (by go_simp) hn (H.out _))).mono ?_); rintro e w' ⟨rfl, rfl⟩)
   | go_in)
  go_ret2
  exact ⟨rfl, (Below.refl _ _).alloc (Nat.le_refl _) _⟩

set_option maxHeartbeats 1000000 in
theorem mod_nought (x : Int) (w : World) (hx : Inr x) :
    Calls Tryd.prog 25 #[.int .u64 (wd x), .int .u64 (wd 0)] w (Out2 0 1 w) := by
  go_enter Tryd.func25, Tryd.ntmps25
  go_wp2_with (first
   | (go_at_call 35; go_must (refine (do_fail_parted x 0 0 1 _ _ hx ⟨by omega, by omega⟩ rfl (parted_nought _ _ _)).mono ?_); rintro e w' ⟨rfl, rfl⟩)
   | go_in)
  go_ret2
  exact ⟨rfl, (Below.refl _ _).alloc (Nat.le_refl _) _⟩

set_option maxHeartbeats 1000000 in
theorem quo_ok (x y : Int) (w : World) (hx : Inr x) (hy : Inr y) (r : Int) (hn : (y == 0) = false) (hc : ∀ w, Calls Tryd.prog 45 #[.int .i64 x, .int .i64 y] w (Done (.int .i64 r) w)) (h : Inr r) :
    Calls Tryd.prog 26 #[.int .u64 (wd x), .int .u64 (wd y)] w (Out2 (wd r) 0 w) := by
  have H := Lib.hid hc; clear hc
  go_enter Tryd.func26, Tryd.ntmps26
  go_wp2_with (first
   | (go_at_call 35; go_must (refine (do_ok_parted x y r _ _ hx hy h (quo_parted _ _ _ _ _ (by go_simp) hn (H.out _))).mono ?_); rintro e w' ⟨rfl, rfl⟩)
   | go_in)
  go_ret2
  exact ⟨rfl, (Below.refl _ _).alloc (Nat.le_refl _) _⟩

set_option maxHeartbeats 1000000 in
theorem quo_over (x y : Int) (w : World) (hx : Inr x) (hy : Inr y) (r : Int) (hn : (y == 0) = false) (hc : ∀ w, Calls Tryd.prog 45 #[.int .i64 x, .int .i64 y] w (Done (.int .i64 r) w)) (h : ¬ Inr r) (r1 : -9223372036854775808 ≤ r) (r2 : r ≤ 9223372036854775807) :
    Calls Tryd.prog 26 #[.int .u64 (wd x), .int .u64 (wd y)] w (Out2 (0) 9 w) := by
  have H := Lib.hid hc; clear hc
  go_enter Tryd.func26, Tryd.ntmps26
  go_wp2_with (first
   | (go_at_call 35; go_must (refine (do_over_parted x y r _ _ hx hy h r1 r2 (quo_parted _ _ _ _ _ (by go_simp) hn (H.out _))).mono ?_); rintro e w' ⟨rfl, rfl⟩)
   | go_in)
  go_ret2
  exact ⟨rfl, (Below.refl _ _).alloc (Nat.le_refl _) _⟩

set_option maxHeartbeats 1000000 in
theorem quo_nought (x : Int) (w : World) (hx : Inr x) :
    Calls Tryd.prog 26 #[.int .u64 (wd x), .int .u64 (wd 0)] w (Out2 0 1 w) := by
  go_enter Tryd.func26, Tryd.ntmps26
  go_wp2_with (first
   | (go_at_call 35; go_must (refine (do_fail_parted x 0 0 1 _ _ hx ⟨by omega, by omega⟩ rfl (parted_nought _ _ _)).mono ?_); rintro e w' ⟨rfl, rfl⟩)
   | go_in)
  go_ret2
  exact ⟨rfl, (Below.refl _ _).alloc (Nat.le_refl _) _⟩

set_option maxHeartbeats 1000000 in
theorem rem_ok (x y : Int) (w : World) (hx : Inr x) (hy : Inr y) (r : Int) (hn : (y == 0) = false) (hc : ∀ w, Calls Tryd.prog 46 #[.int .i64 x, .int .i64 y] w (Done (.int .i64 r) w)) (h : Inr r) :
    Calls Tryd.prog 27 #[.int .u64 (wd x), .int .u64 (wd y)] w (Out2 (wd r) 0 w) := by
  have H := Lib.hid hc; clear hc
  go_enter Tryd.func27, Tryd.ntmps27
  go_wp2_with (first
   | (go_at_call 35; go_must (refine (do_ok_parted x y r _ _ hx hy h (rem_parted _ _ _ _ _ (by go_simp) hn (H.out _))).mono ?_); rintro e w' ⟨rfl, rfl⟩)
   | go_in)
  go_ret2
  exact ⟨rfl, (Below.refl _ _).alloc (Nat.le_refl _) _⟩

set_option maxHeartbeats 1000000 in
theorem rem_over (x y : Int) (w : World) (hx : Inr x) (hy : Inr y) (r : Int) (hn : (y == 0) = false) (hc : ∀ w, Calls Tryd.prog 46 #[.int .i64 x, .int .i64 y] w (Done (.int .i64 r) w)) (h : ¬ Inr r) (r1 : -9223372036854775808 ≤ r) (r2 : r ≤ 9223372036854775807) :
    Calls Tryd.prog 27 #[.int .u64 (wd x), .int .u64 (wd y)] w (Out2 (0) 9 w) := by
  have H := Lib.hid hc; clear hc
  go_enter Tryd.func27, Tryd.ntmps27
  go_wp2_with (first
   | (go_at_call 35; go_must (refine (do_over_parted x y r _ _ hx hy h r1 r2 (rem_parted _ _ _ _ _ (by go_simp) hn (H.out _))).mono ?_); rintro e w' ⟨rfl, rfl⟩)
   | go_in)
  go_ret2
  exact ⟨rfl, (Below.refl _ _).alloc (Nat.le_refl _) _⟩

set_option maxHeartbeats 1000000 in
theorem rem_nought (x : Int) (w : World) (hx : Inr x) :
    Calls Tryd.prog 27 #[.int .u64 (wd x), .int .u64 (wd 0)] w (Out2 0 1 w) := by
  go_enter Tryd.func27, Tryd.ntmps27
  go_wp2_with (first
   | (go_at_call 35; go_must (refine (do_fail_parted x 0 0 1 _ _ hx ⟨by omega, by omega⟩ rfl (parted_nought _ _ _)).mono ?_); rintro e w' ⟨rfl, rfl⟩)
   | go_in)
  go_ret2
  exact ⟨rfl, (Below.refl _ _).alloc (Nat.le_refl _) _⟩

set_option maxHeartbeats 1000000 in
theorem mul_ok (x y : Int) (w : World) (hx : Inr x) (hy : Inr y) (r : Int) (hc : Calls Tryd.prog 60 #[.int .i64 x, .int .i64 y] w (Ruled r 0 w)) (h : Inr r) :
    Calls Tryd.prog 48 #[.int .u64 (wd x), .int .u64 (wd y)] w (Out2 (wd r) 0 w) := by
  have H := Lib.hid hc; clear hc
  go_enter Tryd.func48, Tryd.ntmps48
  go_wp2_with (first
   | (go_at_call 35; go_must (refine (do_ok_times x y r _ hx hy h H.out).mono ?_); rintro e w' ⟨rfl, rfl⟩)
   | go_in)
  go_ret2
  exact ⟨rfl, Below.refl _ _⟩

set_option maxHeartbeats 1000000 in
theorem mul_over (x y : Int) (w : World) (hx : Inr x) (hy : Inr y) (r : Int) (hc : Calls Tryd.prog 60 #[.int .i64 x, .int .i64 y] w (Ruled r 0 w)) (h : ¬ Inr r) (r1 : -9223372036854775808 ≤ r) (r2 : r ≤ 9223372036854775807) :
    Calls Tryd.prog 48 #[.int .u64 (wd x), .int .u64 (wd y)] w (Out2 (0) 9 w) := by
  have H := Lib.hid hc; clear hc
  go_enter Tryd.func48, Tryd.ntmps48
  go_wp2_with (first
   | (go_at_call 35; go_must (refine (do_over_times x y r _ hx hy h r1 r2 H.out).mono ?_); rintro e w' ⟨rfl, rfl⟩)
   | go_in)
  go_ret2
  exact ⟨rfl, Below.refl _ _⟩

set_option maxHeartbeats 1000000 in
theorem mul_fail (x y : Int) (w : World) (hx : Inr x) (hy : Inr y) (hc : Calls Tryd.prog 60 #[.int .i64 x, .int .i64 y] w (Ruled 0 9 w)) :
    Calls Tryd.prog 48 #[.int .u64 (wd x), .int .u64 (wd y)] w (Out2 (0) 9 w) := by
  have H := Lib.hid hc; clear hc
  go_enter Tryd.func48, Tryd.ntmps48
  go_wp2_with (first
   | (go_at_call 35; go_must (refine (do_fail_times x y 0 9 _ hx hy rfl H.out).mono ?_); rintro e w' ⟨rfl, rfl⟩)
   | go_in)
  go_ret2
  exact ⟨rfl, Below.refl _ _⟩

set_option maxHeartbeats 1000000 in
theorem shift_ok (x y : Int) (w : World) (hx : Inr x) (hy : Inr y) (r : Int) (hc : Calls Tryd.prog 47 #[.int .i64 x, .int .i64 y] w (Ruled r 0 w)) (h : Inr r) :
    Calls Tryd.prog 28 #[.int .u64 (wd x), .int .u64 (wd y)] w (Out2 (wd r) 0 w) := by
  have H := Lib.hid hc; clear hc
  go_enter Tryd.func28, Tryd.ntmps28
  go_wp2_with (first
   | (go_at_call 35; go_must (refine (do_ok_shift x y r _ hx hy h H.out).mono ?_); rintro e w' ⟨rfl, rfl⟩)
   | go_in)
  go_ret2
  exact ⟨rfl, Below.refl _ _⟩

set_option maxHeartbeats 1000000 in
theorem shift_over (x y : Int) (w : World) (hx : Inr x) (hy : Inr y) (r : Int) (hc : Calls Tryd.prog 47 #[.int .i64 x, .int .i64 y] w (Ruled r 0 w)) (h : ¬ Inr r) (r1 : -9223372036854775808 ≤ r) (r2 : r ≤ 9223372036854775807) :
    Calls Tryd.prog 28 #[.int .u64 (wd x), .int .u64 (wd y)] w (Out2 (0) 9 w) := by
  have H := Lib.hid hc; clear hc
  go_enter Tryd.func28, Tryd.ntmps28
  go_wp2_with (first
   | (go_at_call 35; go_must (refine (do_over_shift x y r _ hx hy h r1 r2 H.out).mono ?_); rintro e w' ⟨rfl, rfl⟩)
   | go_in)
  go_ret2
  exact ⟨rfl, Below.refl _ _⟩

set_option maxHeartbeats 1000000 in
theorem shift_fail (x y : Int) (w : World) (hx : Inr x) (hy : Inr y) (hc : Calls Tryd.prog 47 #[.int .i64 x, .int .i64 y] w (Ruled 0 9 w)) :
    Calls Tryd.prog 28 #[.int .u64 (wd x), .int .u64 (wd y)] w (Out2 (0) 9 w) := by
  have H := Lib.hid hc; clear hc
  go_enter Tryd.func28, Tryd.ntmps28
  go_wp2_with (first
   | (go_at_call 35; go_must (refine (do_fail_shift x y 0 9 _ hx hy rfl H.out).mono ?_); rintro e w' ⟨rfl, rfl⟩)
   | go_in)
  go_ret2
  exact ⟨rfl, Below.refl _ _⟩

set_option maxHeartbeats 1000000 in
theorem add_kind (a b : Int) (w : World) (ha : 0 ≤ a) (ha' : a ≤ 18446744073709551615) (hb : 0 ≤ b) (hb' : b ≤ 18446744073709551615) (h : isw a = false ∨ isw b = false) :
    Calls Tryd.prog 23 #[.int .u64 a, .int .u64 b] w (Out2 0 13 w) := by
  have H := Lib.hid h; clear h
  go_enter Tryd.func23, Tryd.ntmps23
  go_wp2_with (first
   | (go_at_call 35; go_must (refine (do_kind _ _ _ _ ha ha' hb hb' H.out).mono ?_); rintro e w' ⟨rfl, rfl⟩)
   | go_in)
  go_ret2
  exact ⟨rfl, (Below.refl _ _).alloc (Nat.le_refl _) _⟩

set_option maxHeartbeats 1000000 in
theorem sub_kind (a b : Int) (w : World) (ha : 0 ≤ a) (ha' : a ≤ 18446744073709551615) (hb : 0 ≤ b) (hb' : b ≤ 18446744073709551615) (h : isw a = false ∨ isw b = false) :
    Calls Tryd.prog 19 #[.int .u64 a, .int .u64 b] w (Out2 0 13 w) := by
  have H := Lib.hid h; clear h
  go_enter Tryd.func19, Tryd.ntmps19
  go_wp2_with (first
   | (go_at_call 35; go_must (refine (do_kind _ _ _ _ ha ha' hb hb' H.out).mono ?_); rintro e w' ⟨rfl, rfl⟩)
   | go_in)
  go_ret2
  exact ⟨rfl, (Below.refl _ _).alloc (Nat.le_refl _) _⟩

set_option maxHeartbeats 1000000 in
theorem and_kind (a b : Int) (w : World) (ha : 0 ≤ a) (ha' : a ≤ 18446744073709551615) (hb : 0 ≤ b) (hb' : b ≤ 18446744073709551615) (h : isw a = false ∨ isw b = false) :
    Calls Tryd.prog 20 #[.int .u64 a, .int .u64 b] w (Out2 0 13 w) := by
  have H := Lib.hid h; clear h
  go_enter Tryd.func20, Tryd.ntmps20
  go_wp2_with (first
   | (go_at_call 35; go_must (refine (do_kind _ _ _ _ ha ha' hb hb' H.out).mono ?_); rintro e w' ⟨rfl, rfl⟩)
   | go_in)
  go_ret2
  exact ⟨rfl, (Below.refl _ _).alloc (Nat.le_refl _) _⟩

set_option maxHeartbeats 1000000 in
theorem or_kind (a b : Int) (w : World) (ha : 0 ≤ a) (ha' : a ≤ 18446744073709551615) (hb : 0 ≤ b) (hb' : b ≤ 18446744073709551615) (h : isw a = false ∨ isw b = false) :
    Calls Tryd.prog 21 #[.int .u64 a, .int .u64 b] w (Out2 0 13 w) := by
  have H := Lib.hid h; clear h
  go_enter Tryd.func21, Tryd.ntmps21
  go_wp2_with (first
   | (go_at_call 35; go_must (refine (do_kind _ _ _ _ ha ha' hb hb' H.out).mono ?_); rintro e w' ⟨rfl, rfl⟩)
   | go_in)
  go_ret2
  exact ⟨rfl, (Below.refl _ _).alloc (Nat.le_refl _) _⟩

set_option maxHeartbeats 1000000 in
theorem xor_kind (a b : Int) (w : World) (ha : 0 ≤ a) (ha' : a ≤ 18446744073709551615) (hb : 0 ≤ b) (hb' : b ≤ 18446744073709551615) (h : isw a = false ∨ isw b = false) :
    Calls Tryd.prog 22 #[.int .u64 a, .int .u64 b] w (Out2 0 13 w) := by
  have H := Lib.hid h; clear h
  go_enter Tryd.func22, Tryd.ntmps22
  go_wp2_with (first
   | (go_at_call 35; go_must (refine (do_kind _ _ _ _ ha ha' hb hb' H.out).mono ?_); rintro e w' ⟨rfl, rfl⟩)
   | go_in)
  go_ret2
  exact ⟨rfl, (Below.refl _ _).alloc (Nat.le_refl _) _⟩

set_option maxHeartbeats 1000000 in
theorem floor_kind (a b : Int) (w : World) (ha : 0 ≤ a) (ha' : a ≤ 18446744073709551615) (hb : 0 ≤ b) (hb' : b ≤ 18446744073709551615) (h : isw a = false ∨ isw b = false) :
    Calls Tryd.prog 24 #[.int .u64 a, .int .u64 b] w (Out2 0 13 w) := by
  have H := Lib.hid h; clear h
  go_enter Tryd.func24, Tryd.ntmps24
  go_wp2_with (first
   | (go_at_call 35; go_must (refine (do_kind _ _ _ _ ha ha' hb hb' H.out).mono ?_); rintro e w' ⟨rfl, rfl⟩)
   | go_in)
  go_ret2
  exact ⟨rfl, (Below.refl _ _).alloc (Nat.le_refl _) _⟩

set_option maxHeartbeats 1000000 in
theorem mod_kind (a b : Int) (w : World) (ha : 0 ≤ a) (ha' : a ≤ 18446744073709551615) (hb : 0 ≤ b) (hb' : b ≤ 18446744073709551615) (h : isw a = false ∨ isw b = false) :
    Calls Tryd.prog 25 #[.int .u64 a, .int .u64 b] w (Out2 0 13 w) := by
  have H := Lib.hid h; clear h
  go_enter Tryd.func25, Tryd.ntmps25
  go_wp2_with (first
   | (go_at_call 35; go_must (refine (do_kind _ _ _ _ ha ha' hb hb' H.out).mono ?_); rintro e w' ⟨rfl, rfl⟩)
   | go_in)
  go_ret2
  exact ⟨rfl, (Below.refl _ _).alloc (Nat.le_refl _) _⟩

set_option maxHeartbeats 1000000 in
theorem quo_kind (a b : Int) (w : World) (ha : 0 ≤ a) (ha' : a ≤ 18446744073709551615) (hb : 0 ≤ b) (hb' : b ≤ 18446744073709551615) (h : isw a = false ∨ isw b = false) :
    Calls Tryd.prog 26 #[.int .u64 a, .int .u64 b] w (Out2 0 13 w) := by
  have H := Lib.hid h; clear h
  go_enter Tryd.func26, Tryd.ntmps26
  go_wp2_with (first
   | (go_at_call 35; go_must (refine (do_kind _ _ _ _ ha ha' hb hb' H.out).mono ?_); rintro e w' ⟨rfl, rfl⟩)
   | go_in)
  go_ret2
  exact ⟨rfl, (Below.refl _ _).alloc (Nat.le_refl _) _⟩

set_option maxHeartbeats 1000000 in
theorem rem_kind (a b : Int) (w : World) (ha : 0 ≤ a) (ha' : a ≤ 18446744073709551615) (hb : 0 ≤ b) (hb' : b ≤ 18446744073709551615) (h : isw a = false ∨ isw b = false) :
    Calls Tryd.prog 27 #[.int .u64 a, .int .u64 b] w (Out2 0 13 w) := by
  have H := Lib.hid h; clear h
  go_enter Tryd.func27, Tryd.ntmps27
  go_wp2_with (first
   | (go_at_call 35; go_must (refine (do_kind _ _ _ _ ha ha' hb hb' H.out).mono ?_); rintro e w' ⟨rfl, rfl⟩)
   | go_in)
  go_ret2
  exact ⟨rfl, (Below.refl _ _).alloc (Nat.le_refl _) _⟩

set_option maxHeartbeats 1000000 in
theorem mul_kind (a b : Int) (w : World) (ha : 0 ≤ a) (ha' : a ≤ 18446744073709551615) (hb : 0 ≤ b) (hb' : b ≤ 18446744073709551615) (h : isw a = false ∨ isw b = false) :
    Calls Tryd.prog 48 #[.int .u64 a, .int .u64 b] w (Out2 0 13 w) := by
  have H := Lib.hid h; clear h
  go_enter Tryd.func48, Tryd.ntmps48
  go_wp2_with (first
   | (go_at_call 35; go_must (refine (do_kind _ _ _ _ ha ha' hb hb' H.out).mono ?_); rintro e w' ⟨rfl, rfl⟩)
   | go_in)
  go_ret2
  exact ⟨rfl, Below.refl _ _⟩

set_option maxHeartbeats 1000000 in
theorem shift_kind (a b : Int) (w : World) (ha : 0 ≤ a) (ha' : a ≤ 18446744073709551615) (hb : 0 ≤ b) (hb' : b ≤ 18446744073709551615) (h : isw a = false ∨ isw b = false) :
    Calls Tryd.prog 28 #[.int .u64 a, .int .u64 b] w (Out2 0 13 w) := by
  have H := Lib.hid h; clear h
  go_enter Tryd.func28, Tryd.ntmps28
  go_wp2_with (first
   | (go_at_call 35; go_must (refine (do_kind _ _ _ _ ha ha' hb hb' H.out).mono ?_); rintro e w' ⟨rfl, rfl⟩)
   | go_in)
  go_ret2
  exact ⟨rfl, Below.refl _ _⟩

set_option maxHeartbeats 1000000 in
theorem less_wd (x y : Int) (w : World) (hx : Inr x) (hy : Inr y) :
    Calls Tryd.prog 18 #[.int .u64 (wd x), .int .u64 (wd y)] w (Done (.tuple #[.bool (decide (x < y)), .int .i64 0]) w) := by
  have hl := lt_wd hx hy
  have H := Lib.hid hl; clear hl
  go_enter Tryd.func18, Tryd.ntmps18
  go_wp2_with (go_at_call 15; go_must (refine (is_wd _ _).mono ?_); rintro e w' ⟨rfl, rfl⟩)
  go_ret2
  exact ⟨ret2 (vbool (decide_eq_decide.2 H.out)) rfl, rfl⟩
set_option maxHeartbeats 1000000 in
theorem less_kind (a b : Int) (w : World) (ha : 0 ≤ a) (ha' : a ≤ 18446744073709551615) (hb : 0 ≤ b) (hb' : b ≤ 18446744073709551615) (h : isw a = false ∨ isw b = false) :
    Calls Tryd.prog 18 #[.int .u64 a, .int .u64 b] w (Done (.tuple #[.bool false, .int .i64 13]) w) := by
  cases hq : isw a
  · have H := Lib.hid hq; clear hq h
    go_enter Tryd.func18, Tryd.ntmps18
    go_wp2_with (go_at_call 15; go_must (refine (is_no _ _ ha ha' H.out).mono ?_); rintro e w' ⟨rfl, rfl⟩)
    go_ret2
    exact ⟨rfl, rfl⟩
  · have h' : isw b = false := by simpa [hq] using h
    have H := Lib.hid hq; clear hq h
    have H' := Lib.hid h'; clear h'
    go_enter Tryd.func18, Tryd.ntmps18
    go_wp2_with fail
    refine (is_yes _ _ ha ha' H.out).mono ?_; rintro e w' ⟨rfl, rfl⟩
    go_wp2_with fail
    refine (is_no _ _ hb hb' H'.out).mono ?_; rintro e w' ⟨rfl, rfl⟩
    go_wp2_with fail
    go_ret2
    exact ⟨rfl, rfl⟩
end Sm
end Go.Proofs.YtmmgpmdjpbalfaaDoor
