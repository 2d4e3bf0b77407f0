/- Chapter 17, the walk: intern's cells, Need. -/
import Derived.Test.YtojblndlchcjeaaHpIe
import Derived.Test.YtojblndlchcjeaaHpW8
set_option linter.unusedVariables false
namespace Go.Proofs.Ytojblndlchcjeaa
open Go.RowKit
namespace Hp
open Bs Sm
theorem cells_facts {n q v : Nat} (hn : n ≤ 1048576) (hq : (n + 7) / 8 = q) (hv : 2 + q = v) : (n : Int) + 7 = ((n + 7 : Nat) : Int) ∧ Int.tdiv ((n + 7 : Nat) : Int) 8 = (q : Int) ∧ (2 : Int) + (q : Int) = (v : Int) ∧ IntKind.i64.wrap ((n + 7 : Nat) : Int) = ((n + 7 : Nat) : Int) ∧ IntKind.i64.wrap (q : Int) = (q : Int) ∧ IntKind.i64.wrap (v : Int) = (v : Int) ∧ wrap64 ((n + 7 : Nat) : Int) = ((n + 7 : Nat) : Int) ∧ wrap64 (q : Int) = (q : Int) ∧ wrap64 (v : Int) = (v : Int) :=
  ⟨by omega, by rw [Int.tdiv_eq_ediv_of_nonneg (by omega)]; omega, by omega, by rw [IntKind.wrap_i64]; omega, by rw [IntKind.wrap_i64]; omega, by rw [IntKind.wrap_i64]; omega, by unfold wrap64; omega, by unfold wrap64; omega, by unfold wrap64; omega⟩
theorem cells_any (n : Nat) (hn : n ≤ 1048576) (w : World) : Calls Try.prog 59 #[.int .i64 (n : Int)] w (Done (.int .i64 ((2 + (n + 7) / 8 : Nat) : Int)) w) := by
  obtain ⟨q, hq⟩ : ∃ q, (n + 7) / 8 = q := ⟨_, rfl⟩
  rw [hq]
  obtain ⟨v, hv⟩ : ∃ v, 2 + q = v := ⟨_, rfl⟩
  rw [hv]
  obtain ⟨f1, f2, f3, f4, f5, f6, f7, f8, f9⟩ := cells_facts hn hq hv
  obtain ⟨m, hm⟩ : ∃ m, n + 7 = m := ⟨_, rfl⟩
  rw [hm] at f1 f2 f4 f7
  clear hq hv hn hm
  go_enter Try.func59, Try.ntmps59
  go_wp2_with fail
  go_ret
  exact ⟨rfl, rfl⟩
theorem need_facts {c z a b d : Nat} (hc : c ≤ 1048576) (hz : z ≤ 1048576) (ha : c + 2 = a) (hb : a + z = b) (hd : b + 1 = d) : (c : Int) + 2 = (a : Int) ∧ (a : Int) + (z : Int) = (b : Int) ∧ (b : Int) + 1 = (d : Int) ∧ IntKind.i64.wrap (a : Int) = (a : Int) ∧ IntKind.i64.wrap (b : Int) = (b : Int) ∧ IntKind.i64.wrap (d : Int) = (d : Int) ∧ wrap64 (a : Int) = (a : Int) ∧ wrap64 (b : Int) = (b : Int) ∧ wrap64 (d : Int) = (d : Int) :=
  ⟨by omega, by omega, by omega, by rw [IntKind.wrap_i64]; omega, by rw [IntKind.wrap_i64]; omega, by rw [IntKind.wrap_i64]; omega, by unfold wrap64; omega, by unfold wrap64; omega, by unfold wrap64; omega⟩
def needN (n z : Nat) : Nat := 2 + (n + 7) / 8 + 2 + z + 1
set_option maxRecDepth 100000 in
set_option maxHeartbeats 1600000 in
theorem need_any (B : Bks) (N : Nat) (l : List Ob) (last root : Nat) (o : Ob) (T : List Bts) (s : Bts) (w : World) (hm : Mem B N l last w) (hx : root < 18446744073709551616) (ho : findO l (getL l root 4).1 = some o) (hT : Texts l (getL l root 4).1 1 o T) (hr : Rises T) (hnf : T[spotL T s]? ≠ some s) (hsl : s.length ≤ 10000) :
    Calls Try.prog 32 #[.pointer (some ⟨B.h, 0, none⟩), .int .u64 (root : Int), .string ⟨s.toArray⟩] w (Back (.int .i64 (needN s.length o.hd.size : Nat)) w) := by
  have HF := Lib.hid (ifind_any B N l last root o T s w hm hx ho hT hr)
  rw [decide_eq_false hnf] at HF
  have HS := Lib.hid (fun w hm => special_any B N l last root 4 w hm hx)
  have hL := get_lt hm.1 root 4
  obtain ⟨L, hLL⟩ : ∃ L, (getL l root 4).1 = L := ⟨_, rfl⟩
  obtain ⟨F, hFF⟩ : ∃ F, seekL l (getL l root 4).1 1 T s = F := ⟨_, rfl⟩
  rw [hFF] at HF
  rw [hLL] at HS ho hL
  have HH := Lib.hid (fun w hm => Head_some B N l last L o w hm hL ho)
  have hok := hm.1.ok o (find_some' ho).1
  have hsz := ((okB_iff _).1 hok.hd).2.2.1
  unfold uV at HF HS
  obtain ⟨oa, ⟨kc, kk, kz, kh, km⟩, ow, ob⟩ := o
  dsimp only at hsz HH ⊢
  unfold hdV uV at HH
  dsimp only at HH
  obtain ⟨n, hn⟩ : ∃ n, s.length = n := ⟨_, rfl⟩
  have HN := Lib.hid hn
  have HC := Lib.hid (fun w => cells_any n (by omega) w)
  obtain ⟨c, hcc⟩ : ∃ c, 2 + (n + 7) / 8 = c := ⟨_, rfl⟩
  rw [hcc] at HC
  obtain ⟨a1, ha1⟩ : ∃ a, c + 2 = a := ⟨_, rfl⟩
  obtain ⟨a2, ha2⟩ : ∃ a, a1 + kz = a := ⟨_, rfl⟩
  obtain ⟨a3, ha3⟩ : ∃ a, a2 + 1 = a := ⟨_, rfl⟩
  have HR := Lib.hid (show needN n kz = a3 by unfold needN; omega)
  obtain ⟨f1, f2, f3, f4, f5, f6, f7, f8, f9⟩ := need_facts (show c ≤ 1048576 by omega) hsz ha1 ha2 ha3
  have HM := Lib.hid hm
  rw [hn]
  clear hm hx ho hT hr hnf hsl hL hLL hFF hok hsz hcc ha1 ha2 ha3
  go_enter Try.func32, Try.ntmps32
  go_wp2_with fail
  refine HF.out.mono ?_; rintro e w1 ⟨rfl, hb1⟩
  have HM1 := Lib.hid (HM.out.bel hb1)
  have HB1 := Lib.hid hb1
  clear hb1
  go_wp2_with fail
  refine (HS.out w1 HM1.out).mono ?_; rintro e w2 ⟨rfl, hb2⟩
  have HM2 := Lib.hid (HM1.out.bel hb2)
  have HB2 := Lib.hid (HB1.out.trans (hb2.mono HB1.out.size))
  clear hb2
  go_wp2_with fail
  refine (HH.out w2 HM2.out).mono ?_; rintro e w3 ⟨rfl, hb3⟩
  have HB3 := Lib.hid (HB2.out.trans (hb3.mono HB2.out.size))
  obtain ⟨W4, hal4⟩ : ∃ W, w3.alloc (.cells #[.int .u64 (kc : Int), .int .i64 (kk : Int), .int .i64 (kz : Int), .int .u32 (kh : Int), .bool km] HDT) = W := ⟨_, rfl⟩
  have b4 : Below w3.heap.size w3 W4 := by rw [← hal4]; exact alloc_bel w3 _
  have q4 : Blk HDT w3.heap.size #[.int .u64 (kc : Int), .int .i64 (kk : Int), .int .i64 (kz : Int), .int .u32 (kh : Int), .bool km] W4 := by rw [← hal4]; exact Blk.made w3
  have c42 : W4.drew.cell? ⟨w3.heap.size, 2, none⟩ = some (.int .i64 (kz : Int)) := (q4.below (below_drewN W4 1) q4.lt).c 2 _ rfl
  have HB4 := Lib.hid (HB3.out.trans ((b4.trans ((below_drewN W4 1).mono b4.size)).mono HB3.out.size))
  have HC2 := Lib.hid c42
  clear hb3 b4 q4
  go_wp2_with fail
  refine wp_region_noPanic ?_
  refine Hd.start (fun v => v.cell? ⟨w3.heap.size, 2, none⟩ = some (.int .i64 (kz : Int))) (by kernel_rfl) HC2.out (fun hH0 => ?_)
  refine Hd.tk 0 1 hH0 ?_
  refine Hd.tk 4 5 hH0 ?_
  refine Hd.tk 5 6 hH0 ?_
  refine Hd.on 1 (fun K hK => ?_)
  go_simp
  refine hK.out _ _ hH0 (fun hH1 => ?_)
  clear hK K
  try simp only [Act.put, List.setIfInBounds_toArray, List.set_cons_zero, List.set_cons_succ]
  refine Hd.on 2 (fun K hK => ?_)
  go_simp
  refine (HC.out _).mono ?_; rintro e w5 ⟨rfl, rfl⟩
  refine hK.out _ _ hH1 (fun hH2 => ?_)
  clear hK K
  try simp only [Act.put, List.setIfInBounds_toArray, List.set_cons_zero, List.set_cons_succ]
  refine Hd.tk 3 6 hH2 ?_
  refine Hd.tk 6 7 hH2 ?_
  refine Hd.tk 7 8 hH2 ?_
  refine Hd.la 8 (fun K hK => ?_)
  go_simp
  refine hK.out _ _ ?_
  clear hK K
  try simp only [Act.put, List.setIfInBounds_toArray, List.set_cons_zero, List.set_cons_succ]
  simp only [NoPanic]
  go_wp2_with fail
  go_ret
  exact ⟨ret1 (vint (by rw [HR.out])), HB4.out⟩
end Hp
end Go.Proofs.Ytojblndlchcjeaa
