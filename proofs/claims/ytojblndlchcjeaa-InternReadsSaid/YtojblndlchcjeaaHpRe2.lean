/- Chapters 08 and 17, the walk: the reference's Find, Used. -/
import Derived.Test.YtojblndlchcjeaaHpRe1
import Derived.Test.YtojblndlchcjeaaHpWa
set_option linter.unusedVariables false
namespace Go.Proofs.Ytojblndlchcjeaa
open Go.RowKit
namespace Hp
open Bs Sm
/-- An object's place in the list, -1: none. -/
def idxI (l : List Ob) (x : Nat) : Int := match idxO l x with | some k => (k : Int) | none => -1
set_option maxRecDepth 100000 in
set_option maxHeartbeats 1600000 in
theorem rfind_any (S : Nat → Prop) (N last x : Nat) (lv : Value) (l : List Ob) (w : World) (hl : Obs S w lv l) (hat : ∀ o ∈ l, o.at_ ≤ 16777216) (hx : x < 18446744073709551616) :
    Calls Try.prog 22 #[rhV N lv last, .int .u64 (x : Int)] w (Back (.int .i64 (idxI l x)) w) := by
  have hO := hl
  obtain ⟨a, cap, rfl, hc1, hc2⟩ := hl.form
  obtain ⟨n, hn⟩ : ∃ n, l.length = n := ⟨_, rfl⟩
  have HN := Lib.hid hn
  unfold maxLen at hc2
  rw [hn] at hc1 hO ⊢
  have hm : n ≤ 9223372036854775807 := by omega
  obtain ⟨W1, hal1⟩ : ∃ W1, w.alloc (.cells #[.int .i64 (N : Int), .slice a n cap, .int .u32 (last : Int)] RHT) = W1 := ⟨_, rfl⟩
  have b1 : Below w.heap.size w W1 := by rw [← hal1]; exact alloc_bel _ _
  have qA : Blk RHT w.heap.size #[.int .i64 (N : Int), .slice a n cap, .int .u32 (last : Int)] W1 := by rw [← hal1]; exact Blk.made _
  have c1 := qA.c 1 _ rfl
  have HO := Lib.hid (hO.bel b1)
  have HB := Lib.hid b1
  have HA := Lib.hid hat
  have HX := Lib.hid hx
  unfold rhV
  clear hO hl qA b1 hat hn hc1 hc2 hx
  go_enter Try.func22, Try.ntmps22
  go_wp2_with fail
  go_loop [5] (fun y => ∃ k : Nat, y = .int .i64 (k : Int) ∧ k ≤ n ∧ Hid (NotYet l x k)) (fun y => n - (intOf y).toNat)
  case atStart => exact ⟨0, rfl, Nat.zero_le _, Lib.hid (fun i o hi => by omega)⟩
  case round =>
    obtain ⟨k, rfl, hk, hp⟩ := hrel
    by_cases hkn : k < n
    · have hd : decide ((k : Int) < (n : Int)) = true := by simpa using hkn
      have hd2 : (k : Int) < (n : Int) := by omega
      obtain ⟨b, off, o, wv, bv, rfl, ho, -, hbl, hrow, -, -⟩ := HO.out.nth k hkn
      obtain ⟨r0, -⟩ := hrow
      have hat := HA.out o (List.mem_of_getElem? ho)
      have hw : IntKind.u64.wrap (IntKind.u64.wrap (o.at_ : Int) * 2) = ((o.at_ * 2 : Nat) : Int) := by rw [wrap_u64_eq, wrap_u64_eq]; omega
      obtain ⟨q, hq⟩ : ∃ q, o.at_ * 2 = q := ⟨_, rfl⟩
      rw [hq] at hw
      by_cases he : q = x
      · have e1 : ((q : Int) == (x : Int)) = true := by rw [he]; simp
        have e2 : (q == x) = true := by rw [he]; simp
        have HR : Hid (idxI l x = (k : Int)) := Lib.hid (by unfold idxI; rw [idx_hit hp.out ho (hq.trans he)])
        clear hp hq he hat ho
        go_wp2_with fail
        go_ret
        exact ⟨ret1 (vint HR.out.symm), HB.out⟩
      · have e1 : ((q : Int) == (x : Int)) = false := by simp; omega
        have e2 : (q == x) = false := by simpa using he
        have HP : Hid (NotYet l x (k + 1)) := Lib.hid (fun i y hi hy => by
          by_cases hik : i < k
          · exact hp.out i y hik hy
          · obtain rfl : i = k := by omega
            rw [ho] at hy; cases hy; rw [hq]; exact he)
        clear hp hq he hat ho
        go_wp2_with fail
        exact ⟨⟨k + 1, by simp, by omega, HP⟩, by simp only [intOf]; omega⟩
    · obtain rfl : k = n := by omega
      have hd : decide ((k : Int) < (k : Int)) = false := by simp
      have HR : Hid (idxI l x = -1) := Lib.hid (by unfold idxI; rw [idx_miss (by rw [HN.out]; exact hp.out)])
      clear hp
      go_wp2_with fail
      go_ret
      exact ⟨ret1 (vint HR.out.symm), HB.out⟩
set_option maxRecDepth 100000 in
set_option maxHeartbeats 1600000 in
theorem rused_any (S : Nat → Prop) (N last : Nat) (lv : Value) (l : List Ob) (w : World) (hl : Obs S w lv l) (hc : Chain 2 l) (hok : ∀ o ∈ l, okB o.hd = true) (hE : endL 2 l ≤ 16777216) :
    Calls Try.prog 20 #[rhV N lv last] w (Back (.int .i64 (endL 2 l : Nat)) w) := by
  have hO := hl
  obtain ⟨a, cap, rfl, hc1, hc2⟩ := hl.form
  obtain ⟨n, hn⟩ : ∃ n, l.length = n := ⟨_, rfl⟩
  unfold maxLen at hc2
  rw [hn] at hc1 hO ⊢
  have hm : n ≤ 9223372036854775807 := by omega
  obtain ⟨W1, hal1⟩ : ∃ W1, w.alloc (.cells #[.int .i64 (N : Int), .slice a n cap, .int .u32 (last : Int)] RHT) = W1 := ⟨_, rfl⟩
  have b1 : Below w.heap.size w W1 := by rw [← hal1]; exact alloc_bel _ _
  have qA : Blk RHT w.heap.size #[.int .i64 (N : Int), .slice a n cap, .int .u32 (last : Int)] W1 := by rw [← hal1]; exact Blk.made _
  have c1 := qA.c 1 _ rfl
  have HB := Lib.hid b1
  unfold rhV
  by_cases h0 : n = 0
  · subst h0
    have hl0 : l = [] := List.eq_nil_of_length_eq_zero hn
    have e : endL 2 l = 2 := by rw [hl0]; rfl
    rw [e]
    clear hO hl qA b1 hn hc1 hc2 hc hok hE hl0 e
    go_enter Try.func20, Try.ntmps20
    go_wp2_with fail
    go_ret
    exact ⟨rfl, HB.out⟩
  · obtain ⟨b, off, o, wv, bv, rfl, ho, -, hbl, hrow, hrw, hrb⟩ := (hO.bel b1).nth (n - 1) (by omega)
    obtain ⟨wa, wc, rfl, -, -⟩ := hrw.form
    obtain ⟨ba, bc, rfl, -, -⟩ := hrb.form
    clear hrw hrb
    obtain ⟨wn, hwn⟩ : ∃ n, o.words.length = n := ⟨_, rfl⟩
    obtain ⟨bn, hbn⟩ : ∃ n, o.bytes.length = n := ⟨_, rfl⟩
    rw [hwn, hbn] at hrow
    clear hwn hbn
    obtain ⟨e1, e2, -⟩ := at_take hc ho
    rw [show n - 1 + 1 = n by omega, List.take_of_length_le (by omega)] at e2
    have hat : o.at_ ≤ 16777216 := by omega
    have HC := Lib.hid (fun w => rcells_ok o.hd (hok o (List.mem_of_getElem? ho)) w)
    have hcl : cellsL o.hd ≤ 16777216 := by omega
    obtain ⟨q, hq⟩ : ∃ q, cellsL o.hd = q := ⟨_, rfl⟩
    rw [hq] at HC e2 hcl
    obtain ⟨⟨at_, ⟨hcc, ks, kz, kx, km⟩, ows, obs⟩, rfl⟩ : ∃ o', o = o' := ⟨_, rfl⟩
    unfold ORow at hrow
    dsimp only at hrow e2 hat HC
    obtain ⟨r0, r1, r2, r3, r4, r5, r6, r7⟩ := hrow
    rw [e2]
    unfold hdV uV at HC
    dsimp only at HC
    have n1 : ((n : Int) == 0) = false := by simp; omega
    have n1' : (n == 0) = false := by simpa using h0
    have n2 : (1 : Int) ≤ (n : Int) := by omega
    have n3 : (n : Int) - 1 = ((n - 1 : Nat) : Int) := by omega
    have n4 : n - 1 < n := by omega
    obtain ⟨j, hj⟩ : ∃ j, n - 1 = j := ⟨_, rfl⟩
    rw [hj] at r0 r1 r2 r3 r4 r5 r6 r7 n3 n4
    have n5 : (j : Int) < (n : Int) := by omega
    have n6 : (q : Int) ≤ 16777216 := by omega
    have n7 : (at_ : Int) ≤ 16777216 := by omega
    have hw1 : IntKind.i64.wrap ((at_ : Int) + 2) = (at_ : Int) + 2 := by rw [IntKind.wrap_i64]; omega
    have hw2 : IntKind.i64.wrap ((at_ : Int) + 2 + (q : Int)) = (at_ : Int) + 2 + (q : Int) := by rw [IntKind.wrap_i64]; omega
    obtain ⟨W2, hal2⟩ : ∃ W2, W1.alloc (.cells #[.int .i64 (at_ : Int), .int .u64 (hcc : Int), .int .i64 (ks : Int), .int .i64 (kz : Int), .int .u32 (kx : Int), .bool km, .slice wa wn wc, .slice ba bn bc] OT) = W2 := ⟨_, rfl⟩
    have b2 : Below W1.heap.size W1 W2 := by rw [← hal2]; exact alloc_bel _ _
    have qB : Blk OT W1.heap.size #[.int .i64 (at_ : Int), .int .u64 (hcc : Int), .int .i64 (ks : Int), .int .i64 (kz : Int), .int .u32 (kx : Int), .bool km, .slice wa wn wc, .slice ba bn bc] W2 := by rw [← hal2]; exact Blk.made _
    have HB2 := Lib.hid (b1.trans (b2.mono b1.size))
    have HS := Lib.hid (show ∀ v, Below W2.heap.size W2 v → (v.cell? ⟨W1.heap.size, 0, none⟩ = some (.int .i64 (at_ : Int)) ∧ v.cell? ⟨W1.heap.size, 1, none⟩ = some (.int .u64 (hcc : Int)) ∧ v.cell? ⟨W1.heap.size, 2, none⟩ = some (.int .i64 (ks : Int)) ∧ v.cell? ⟨W1.heap.size, 3, none⟩ = some (.int .i64 (kz : Int)) ∧ v.cell? ⟨W1.heap.size, 4, none⟩ = some (.int .u32 (kx : Int)) ∧ v.cell? ⟨W1.heap.size, 5, none⟩ = some (.bool km)) from fun v hb => by
      have q := qB.below hb qB.lt
      exact ⟨q.c 0 _ rfl, q.c 1 _ rfl, q.c 2 _ rfl, q.c 3 _ rfl, q.c 4 _ rfl, q.c 5 _ rfl⟩)
    clear hO hl qA b1 hn hc1 hc2 hc hok hE h0 ho e1 e2 hq hcl hj b2 qB
    go_enter Try.func20, Try.ntmps20
    go_wp2_with fail
    refine wp_region_noPanic ?_
    refine Hd.start (fun v => v.cell? ⟨W1.heap.size, 0, none⟩ = some (.int .i64 (at_ : Int)) ∧ v.cell? ⟨W1.heap.size, 1, none⟩ = some (.int .u64 (hcc : Int)) ∧ v.cell? ⟨W1.heap.size, 2, none⟩ = some (.int .i64 (ks : Int)) ∧ v.cell? ⟨W1.heap.size, 3, none⟩ = some (.int .i64 (kz : Int)) ∧ v.cell? ⟨W1.heap.size, 4, none⟩ = some (.int .u32 (kx : Int)) ∧ v.cell? ⟨W1.heap.size, 5, none⟩ = some (.bool km)) (by kernel_rfl) (HS.out _ (below_drewN W2 1)) (fun hH0 => ?_)
    refine Hd.tk 0 1 hH0 ?_
    refine Hd.tk 1 2 hH0 ?_
    refine Hd.tk 2 6 hH0 ?_
    refine Hd.tk 3 4 hH0 ?_
    refine Hd.tk 4 5 hH0 ?_
    refine Hd.on 5 (fun K hK => ?_)
    go_simp
    refine (HC.out _).mono ?_; rintro e w1 ⟨rfl, hb1⟩
    have HB1 := Lib.hid ((below_drewN W2 1).trans (hb1.mono (below_drewN W2 1).size))
    clear hb1
    refine hK.out _ _ (HS.out _ HB1.out) (fun hH1 => ?_)
    clear hK K
    try simp only [Act.put, List.setIfInBounds_toArray, List.set_cons_zero, List.set_cons_succ]
    refine Hd.tk 6 7 hH1 ?_
    refine Hd.la 7 (fun K hK => ?_)
    go_simp
    refine hK.out _ _ ?_
    clear hK K
    try simp only [Act.put, List.setIfInBounds_toArray, List.set_cons_zero, List.set_cons_succ]
    simp only [NoPanic]
    go_wp2_with fail
    go_ret
    exact ⟨ret1 (vint (by first | rfl | omega)), HB2.out.trans (HB1.out.mono HB2.out.size)⟩
end Hp
end Go.Proofs.Ytojblndlchcjeaa
