/- Chapter 17, the walk: heap's PutByte. -/
import Derived.Test.YtojblndlchcjeaaHpIc
set_option linter.unusedVariables false
namespace Go.Proofs.Ytojblndlchcjeaa
open Go.RowKit
namespace Hp
open Bs Sm
/-- A byte is laid into a word. -/
theorem byte_put (b : List UInt8) (i : Nat) (c : UInt8) (hi : i < 8) (hb : i < b.length) (m : Nat) (hm : 8 * i = m) :
    bits .or .u64 (bits .andNot .u64 ((w8 b : Nat) : Int) (IntKind.u64.wrap (255 * 2 ^ m))) (IntKind.u64.wrap (IntKind.u64.wrap (c.toNat : Int) * 2 ^ m)) = ((w8 (b.set i c) : Nat) : Int) := by
  have hc := c.toNat_lt
  have hp : 255 * 2 ^ m < 2 ^ 64 ∧ c.toNat * 2 ^ m < 2 ^ 64 ∧ m ≤ 56 := by
    have h1 : 2 ^ m ≤ 2 ^ 56 := Nat.pow_le_pow_right (by decide) (by omega)
    have h2 : c.toNat * 2 ^ m ≤ 255 * 2 ^ 56 := Nat.mul_le_mul (by omega) h1
    have h3 : 255 * 2 ^ m ≤ 255 * 2 ^ 56 := Nat.mul_le_mul (Nat.le_refl _) h1
    have h4 : 255 * 2 ^ 56 < 2 ^ 64 := by decide
    exact ⟨by omega, by omega, by omega⟩
  have e1 : IntKind.u64.wrap (255 * 2 ^ m) = ((255 * 2 ^ m : Nat) : Int) := by
    rw [wrap_u64_eq]
    have : (255 * 2 ^ m : Int) = ((255 * 2 ^ m : Nat) : Int) := by rw [Int.natCast_mul, Int.natCast_pow]; rfl
    rw [this]
    omega
  have e2 : IntKind.u64.wrap (c.toNat : Int) = (c.toNat : Int) := by rw [wrap_u64_eq]; omega
  have e3 : IntKind.u64.wrap ((c.toNat : Int) * 2 ^ m) = ((c.toNat * 2 ^ m : Nat) : Int) := by
    rw [wrap_u64_eq]
    have : ((c.toNat : Int) * 2 ^ m) = ((c.toNat * 2 ^ m : Nat) : Int) := by rw [Int.natCast_mul, Int.natCast_pow]; rfl
    rw [this]
    omega
  rw [e2, e1, e3]
  have e4 : bits .andNot .u64 ((w8 b : Nat) : Int) ((255 * 2 ^ m : Nat) : Int) = ((w8 b &&& (18446744073709551615 - 255 * 2 ^ m) : Nat) : Int) := u64_andNot_nat _ _ (w8_lt b) hp.1
  rw [e4]
  have hlt : (w8 b &&& (18446744073709551615 - 255 * 2 ^ m)) < 2 ^ 64 := Nat.and_lt_two_pow _ (by have : 18446744073709551615 - 255 * 2 ^ m ≤ 18446744073709551615 := Nat.sub_le _ _; omega)
  rw [u64or _ _ hlt hp.2.1]
  congr 1
  apply Nat.eq_of_testBit_eq
  intro j
  rw [w8_set_bit b i c hi hb j, Nat.testBit_or, Nat.testBit_and, Nat.testBit_mul_two_pow]
  have e5 : 18446744073709551615 - 255 * 2 ^ m = 2 ^ 64 - (255 * 2 ^ m + 1) := by omega
  rw [e5, Nat.testBit_two_pow_sub_succ hp.1, Nat.testBit_mul_two_pow]
  have e6 : ∀ k, (255 : Nat).testBit k = decide (k < 8) := fun k => by rw [show (255 : Nat) = 2 ^ 8 - 1 by rfl, Nat.testBit_two_pow_sub_one]
  rw [e6]
  by_cases h : 8 * i ≤ j ∧ j < 8 * i + 8
  · rw [if_pos h]
    have h1 : decide (j ≥ m) = true := decide_eq_true (by omega)
    have h2 : decide (j - m < 8) = true := decide_eq_true (by omega)
    rw [h1, h2, hm]
    simp
  · rw [if_neg h]
    by_cases hj : j ≥ m
    · have h1 : decide (j ≥ m) = true := decide_eq_true hj
      have h2 : decide (j - m < 8) = false := decide_eq_false (by omega)
      have h3 : c.toNat.testBit (j - m) = false := Nat.testBit_lt_two_pow (Nat.lt_of_lt_of_le (show c.toNat < 2 ^ 8 from hc) (Nat.pow_le_pow_right (by decide) (by omega)))
      rw [h1, h2, h3]
      by_cases h64 : j < 64
      · simp [h64]
      · have : (w8 b).testBit j = false := Nat.testBit_lt_two_pow (Nat.lt_of_lt_of_le (w8_lt b) (show 18446744073709551616 ≤ 2 ^ j from Nat.le_trans (by decide) (Nat.pow_le_pow_right (by decide) (show 64 ≤ j by omega))))
        rw [this]; simp
    · have h1 : decide (j ≥ m) = false := decide_eq_false hj
      rw [h1]
      have h64 : j < 64 := by omega
      simp [h64]
theorem min_64 {r m : Nat} (hr : r < 8) (hm : 8 * r = m) : min m 64 = m := by omega
theorem drop_lt {j r n : Nat} (hr : j % 8 = r) (hj : j < n) : r < n - 8 * (j / 8) := by omega
theorem putb_end {l : List Ob} {k j : Nat} {c : UInt8} {o : Ob} (hc : Chain 2 l) (hok : ∀ o ∈ l, OkO o) (h : l[k]? = some o) (hk : o.hd.kind = 2) (hj : j < o.bytes.length) : endL 2 (putB l k j c) = endL 2 l := by
  have h1 := heapW_len l 2 hok
  have h2 := heapW_len (putB l k j c) 2 (putB_ok hok)
  rw [heapW_putB hc hok h hk hj, List.length_set] at h2
  omega
theorem putb_cells {N : Nat} {l : List Ob} {k j : Nat} {c : UInt8} {o : Ob} (hc : Chain 2 l) (hok : ∀ o ∈ l, OkO o) (h : l[k]? = some o) (hk : o.hd.kind = 2) (hj : j < o.bytes.length) : cellsN N (putB l k j c) = (cellsN N l).set (o.at_ + 2 + j / 8) (w8 ((o.bytes.drop (8 * (j / 8))).set (j % 8) c)) := by
  unfold cellsN
  rw [putb_end hc hok h hk hj, heapW_putB hc hok h hk hj]
  have hge := at_ge hc h
  rw [show o.at_ + 2 + j / 8 = (o.at_ - 2 + (2 + j / 8)) + 2 by omega, List.set_cons_succ, List.set_cons_succ, List.set_append_left]
  have h1 := heapW_len l 2 hok
  have h2 := at_take hc h
  have h3 := (hok o (List.mem_of_getElem? h)).bytes hk
  have h4 : cellsL o.hd = (o.hd.size + 7) / 8 := by unfold cellsL; rw [if_pos hk]
  omega
theorem putb_fine {N last : Nat} {l : List Ob} {k j : Nat} {c : UInt8} {o : Ob} (hf : Fine N l last) (h : l[k]? = some o) (hk : o.hd.kind = 2) (hj : j < o.bytes.length) : Fine N (putB l k j c) last :=
  ⟨putB_chain hf.ch, putB_ok hf.ok, by rw [putb_end hf.ch hf.ok h hk hj]; exact hf.fit, hf.lo, hf.hi, hf.la⟩
theorem sh_facts {j r m : Nat} (hr : j % 8 = r) (hr8 : r < 8) (hm : 8 * r = m) : Int.tmod (j : Int) 8 = (r : Int) ∧ IntKind.i64.wrap (r : Int) = (r : Int) ∧ wrap64 (r : Int) = (r : Int) ∧ 8 * (r : Int) = (m : Int) ∧ IntKind.i64.wrap (m : Int) = (m : Int) ∧ wrap64 (m : Int) = (m : Int) ∧ (0 : Int) ≤ (m : Int) ∧ ¬ (m : Int) < 0 :=
  ⟨by rw [Int.tmod_eq_emod_of_nonneg (by omega)]; omega, by rw [IntKind.wrap_i64]; omega, by unfold wrap64; omega, by omega, by rw [IntKind.wrap_i64]; omega, by unfold wrap64; omega, by omega, by omega⟩
set_option maxRecDepth 100000 in
set_option maxHeartbeats 1600000 in
theorem hputb_any (B : Bks) (N : Nat) (l : List Ob) (last k j x : Nat) (c : UInt8) (o : Ob) (w : World) (hm : Mem B N l last w) (h : l[k]? = some o) (hx : x = 2 * o.at_) (hk : o.hd.kind = 2) (hj : j < o.bytes.length) :
    Calls Try.prog 61 #[.pointer (some ⟨B.h, 0, none⟩), .int .u64 (x : Int), .int .i64 (j : Int), .int .u8 (c.toNat : Int)] w (StR B N (putB l k j c) last w) := by
  have hf := hm.1
  have hfo : findO l x = some o := by rw [hx, Nat.mul_comm]; exact find_at hf.ch h
  have hplt := place_lt hf h
  have hNh := hf.hi
  have hsz := ((hf.ok o (List.mem_of_getElem? h)).bytes hk).1
  have hcl : cellsL o.hd = (o.hd.size + 7) / 8 := by unfold cellsL; rw [if_pos hk]
  have HF := Lib.hid (find_true B N l last x (j : Int) w hm (by omega))
  have hfl : findL l x (j : Int) true = (((o.at_ + 2 + j / 8 : Nat) : Int), 0) := by
    unfold findL
    rw [hfo]
    have e : (o.hd.kind == 2) = true := by simpa using hk
    dsimp only
    rw [e, if_neg (by decide), if_neg (by omega), if_pos rfl, Prod.mk.injEq]
    exact ⟨by omega, rfl⟩
  rw [hfl] at HF
  obtain ⟨p, hp⟩ : ∃ p, o.at_ + 2 + j / 8 = p := ⟨_, rfl⟩
  rw [hp] at HF
  have hpN : p < N := by omega
  have hpi : (p : Int) < (N : Int) := by omega
  have hp0 : (0 : Int) ≤ (p : Int) := by omega
  have HLE := Lib.hid hf.len
  have HM := Lib.hid hm
  obtain ⟨r, hr⟩ : ∃ r, j % 8 = r := ⟨_, rfl⟩
  have hr8 : r < 8 := by rw [← hr]; exact Nat.mod_lt _ (by decide)
  obtain ⟨m, hmm⟩ : ∃ m, 8 * r = m := ⟨_, rfl⟩
  obtain ⟨hr1, hwr, hwr', hm1, hwm, hwm', hm0, hmn⟩ := sh_facts hr hr8 hmm
  have hmin : min m 64 = m := min_64 hr8 hmm
  have hu0 : (cellsN N l)[p]? = some (w8 (o.bytes.drop (8 * (j / 8)))) := by
    have h1 := (cells_at hf.ch hf.ok h (List.replicate (N - endL 2 l) 0)).2.2 (j / 8) _ (byte_word (hf.ok o (List.mem_of_getElem? h)) hk hj)
    rw [hp] at h1
    exact h1
  have hbp := byte_put (o.bytes.drop (8 * (j / 8))) r c hr8 (by rw [List.length_drop]; exact drop_lt hr hj) m hmm
  have hce := putb_cells (N := N) (c := c) hf.ch hf.ok h hk hj
  rw [hp, hr] at hce
  obtain ⟨u, hu⟩ : ∃ u, w8 (o.bytes.drop (8 * (j / 8))) = u := ⟨_, rfl⟩
  obtain ⟨nw, hnw⟩ : ∃ u, w8 ((o.bytes.drop (8 * (j / 8))).set r c) = u := ⟨_, rfl⟩
  rw [hu, hnw] at hbp
  rw [hu] at hu0
  rw [hnw] at hce
  have HCE := Lib.hid hce
  have HU0 := Lib.hid hu0
  have HFI := Lib.hid (putb_fine (c := c) hf h hk hj)
  have HEE := Lib.hid (putb_end (c := c) hf.ch hf.ok h hk hj)
  have HLE2 := Lib.hid (putb_fine (c := c) hf h hk hj).len
  obtain ⟨cv, hcv⟩ : ∃ v, c.toNat = v := ⟨_, rfl⟩
  rw [hcv] at hbp ⊢
  have HBP := Lib.hid hbp
  clear hbp
  clear hm h hx hk hj hf hfo hplt hNh hsz hcl hfl hp hr hmm hu0 hce hu hnw hr8
  go_enter Try.func61, Try.ntmps61
  go_wp2_with fail
  refine HF.out.mono ?_; rintro e w1 ⟨rfl, hb1⟩
  obtain ⟨hf1, ws, hS, hR⟩ := (HM.out.bel hb1).bel (below_drewN w1 1)
  have c0 : w1.drew.cell? ⟨B.h, 0, none⟩ = some (.slice (some ⟨B.c, 0, none⟩) N N) := by have := hR.hp.c 0 _ rfl; rw [HLE.out] at this; exact this
  have hu := HU0.out
  have cp : w1.drew.cell? ⟨B.c, p, none⟩ = some (.int .u64 (u : Int)) := hR.rc.c p _ (row_get hu)
  have zp : w1.drew.frozen? ⟨B.c, p, none⟩ = false := hR.rc.fz p
  have HRES : Hid (Mem B N (putB l k j c) last (w1.drew.setCell ⟨B.c, p, none⟩ (.int .u64 (bits .or .u64 (bits .andNot .u64 (u : Int) (IntKind.u64.wrap (255 * 2 ^ m))) (IntKind.u64.wrap (IntKind.u64.wrap (cv : Int) * 2 ^ m))))) ∧ But (HB B) w (w1.drew.setCell ⟨B.c, p, none⟩ (.int .u64 (bits .or .u64 (bits .andNot .u64 (u : Int) (IntKind.u64.wrap (255 * 2 ^ m))) (IntKind.u64.wrap (IntKind.u64.wrap (cv : Int) * 2 ^ m)))))) := Lib.hid (by
    rw [HBP.out]
    refine ⟨⟨HFI.out, ws, by rw [putB_start]; exact hS, ?_⟩, (But.of (hb1.trans ((below_drewN w1 1).mono hb1.size))).set_ (X := HB B) (k := B.c) (.inr (.inl rfl)) p _⟩
    have h1 := hR.hp
    have h2 := hR.bs
    rw [HLE.out] at h1 h2
    rw [HEE.out]
    refine ⟨?_, ?_, ?_⟩
    · rw [HLE2.out]; exact blk_set h1 hR.rc ht_wt p _
    · refine hR.rc.set_ p _ _ ?_
      rw [HCE.out, ← row_set]; rfl
    · rw [HLE2.out]; exact ⟨blk_set h2.st hR.rc bt_wt p _, blk_set h2.rs hR.rc wt_ut.symm p _⟩)
  have HS := Lib.hid (And.intro c0 cp)
  clear hb1 hf1 hS hR hu
  go_wp2_with fail
  refine wp_region_noPanic ?_
  refine Hd.start (fun v => v.cell? ⟨B.h, 0, none⟩ = some (.slice (some ⟨B.c, 0, none⟩) N N) ∧ v.cell? ⟨B.c, p, none⟩ = some (.int .u64 (u : Int))) (by kernel_rfl) HS.out (fun hH0 => ?_)
  refine Hd.tk 0 1 hH0 ?_
  refine Hd.tk 1 2 hH0 ?_
  refine Hd.tk 2 3 hH0 ?_
  refine Hd.tk 3 20 hH0 ?_
  refine Hd.tk 4 20 hH0 ?_
  refine Hd.tk 5 6 hH0 ?_
  refine Hd.tk 6 7 hH0 ?_
  refine Hd.tk 7 8 hH0 ?_
  refine Hd.tk 8 10 hH0 ?_
  refine Hd.tk 9 10 hH0 ?_
  refine Hd.tk 10 11 hH0 ?_
  refine Hd.tk 11 14 hH0 ?_
  refine Hd.tk 12 13 hH0 ?_
  refine Hd.tk 13 14 hH0 ?_
  refine Hd.tk 14 19 hH0 ?_
  refine Hd.tk 15 16 hH0 ?_
  refine Hd.tk 16 18 hH0 ?_
  refine Hd.tk 17 18 hH0 ?_
  refine Hd.tk 18 19 hH0 ?_
  refine Hd.tk 19 21 hH0 ?_
  refine Hd.tk 20 21 hH0 ?_
  refine Hd.la 21 (fun K hK => ?_)
  go_simp
  refine hK.out _ _ ?_
  clear hK K
  try simp only [Act.put, List.setIfInBounds_toArray, List.set_cons_zero, List.set_cons_succ]
  simp only [NoPanic]
  go_wp2_with fail
  go_ret
  exact ⟨rfl, HRES.out.1, HRES.out.2⟩
end Hp
end Go.Proofs.Ytojblndlchcjeaa
