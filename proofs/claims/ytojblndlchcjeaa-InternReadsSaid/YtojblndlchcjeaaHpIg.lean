/- Chapter 17, the walk: intern.Intern of a new symbol. -/
import Derived.Test.YtojblndlchcjeaaHpIf
set_option linter.unusedVariables false
namespace Go.Proofs.Ytojblndlchcjeaa
open Go.RowKit
namespace Hp
open Bs Sm
theorem getL_at {N last r x i v : Nat} {l : List Ob} {ro : Ob} (hf : Fine N l last) (hr : l[r]? = some ro) (hk : ro.hd.kind ≠ 2) (hx : x = 2 * ro.at_) (hi : ro.words[i]? = some v) : getL l x (i : Int) = (v, 0) := by
  have hfo : findO l x = some ro := by rw [hx, Nat.mul_comm]; exact find_at hf.ch hr
  have hs := ((hf.ok ro (List.mem_of_getElem? hr)).words hk).1
  have hlt := (List.getElem?_eq_some_iff.1 hi).1
  unfold getL
  rw [hfo]
  dsimp only
  rw [if_neg hk, if_neg (by omega), Int.toNat_natCast, List.getD_eq_getElem?_getD, hi]
  rfl
/-- The new list's words, i of the old ones laid. -/
def nxW (SW : List Nat) (at_ fill i : Nat) : List Nat := (List.range (SW.length + 1)).map fun p => if p < at_ then (if p < i then SW.getD p 0 else fill) else if p = at_ then fill else if p - 1 < i then SW.getD (p - 1) 0 else fill
theorem nxW_len (SW : List Nat) (at_ fill i : Nat) : (nxW SW at_ fill i).length = SW.length + 1 := by unfold nxW; rw [List.length_map, List.length_range]
theorem nxW_zero (SW : List Nat) (at_ fill : Nat) : nxW SW at_ fill 0 = List.replicate (SW.length + 1) fill := by
  unfold nxW
  apply List.ext_getElem?
  intro p
  by_cases h : p < SW.length + 1
  · rw [List.getElem?_map, List.getElem?_range h, List.getElem?_replicate, if_pos h]
    show some _ = some _
    simp
  · rw [List.getElem?_eq_none (by simp; omega), List.getElem?_eq_none (by simp; omega)]
theorem nxW_step (SW : List Nat) (at_ fill i : Nat) (hi : i < SW.length) : (nxW SW at_ fill i).set (if i < at_ then i else i + 1) (SW.getD i 0) = nxW SW at_ fill (i + 1) := by
  apply List.ext_getElem?
  intro p
  by_cases h : p < SW.length + 1
  · by_cases e : (if i < at_ then i else i + 1) = p
    · rw [e, List.getElem?_set_self (by rw [nxW_len]; exact h)]
      unfold nxW
      rw [List.getElem?_map, List.getElem?_range h]
      show some _ = some _
      congr 1
      dsimp only
      split at e
      · subst e; rename_i hlt; rw [if_pos hlt, if_pos (Nat.lt_succ_self i)]
      · subst e; rename_i hlt; rw [if_neg (by omega), if_neg (by omega), Nat.add_sub_cancel, if_pos (Nat.lt_succ_self i)]
    · rw [List.getElem?_set_ne e]
      unfold nxW
      rw [List.getElem?_map, List.getElem?_map, List.getElem?_range h]
      show some _ = some _
      congr 1
      dsimp only
      by_cases h1 : p < at_
      · rw [if_pos h1, if_pos h1]
        by_cases h2 : p < i
        · rw [if_pos h2, if_pos (by omega)]
        · rw [if_neg h2]
          by_cases h3 : p < i + 1
          · exfalso
            have : p = i := by omega
            subst this
            rw [if_pos h1] at e
            exact e rfl
          · rw [if_neg h3]
      · rw [if_neg h1, if_neg h1]
        by_cases h2 : p = at_
        · rw [if_pos h2, if_pos h2]
        · rw [if_neg h2, if_neg h2]
          by_cases h3 : p - 1 < i
          · rw [if_pos h3, if_pos (by omega)]
          · rw [if_neg h3]
            by_cases h4 : p - 1 < i + 1
            · exfalso
              have : p = i + 1 := by omega
              subst this
              rw [if_neg (by omega)] at e
              exact e rfl
            · rw [if_neg h4]
  · rw [List.getElem?_eq_none (by rw [List.length_set, nxW_len]; omega), List.getElem?_eq_none (by rw [nxW_len]; omega)]
theorem nxW_full (SW : List Nat) (at_ fill : Nat) (ha : at_ ≤ SW.length) : nxW SW at_ fill SW.length = SW.take at_ ++ fill :: SW.drop at_ := by
  apply List.ext_getElem?
  intro p
  have hl : (SW.take at_ ++ fill :: SW.drop at_).length = SW.length + 1 := by simp; omega
  by_cases h : p < SW.length + 1
  · unfold nxW
    rw [List.getElem?_map, List.getElem?_range h]
    show some _ = _
    dsimp only
    by_cases h1 : p < at_
    · rw [if_pos h1, if_pos (by omega), List.getElem?_append_left (by rw [List.length_take]; omega), List.getElem?_take_of_lt h1, List.getD_eq_getElem?_getD, List.getElem?_eq_getElem (by omega)]
      rfl
    · rw [if_neg h1, List.getElem?_append_right (by rw [List.length_take]; omega), List.length_take, Nat.min_eq_left ha]
      by_cases h2 : p = at_
      · rw [if_pos h2, h2, Nat.sub_self]; rfl
      · obtain ⟨q, hq⟩ : ∃ q, p - at_ = q + 1 := ⟨p - at_ - 1, by omega⟩
        rw [if_neg h2, if_pos (by omega), hq, List.getElem?_cons_succ, List.getElem?_drop, show at_ + q = p - 1 by omega, List.getD_eq_getElem?_getD, List.getElem?_eq_getElem (by omega)]
        rfl
  · rw [List.getElem?_eq_none (by rw [nxW_len]; omega), List.getElem?_eq_none (by rw [hl]; omega)]
def nxO (E c : Nat) (SW : List Nat) (at_ fill i : Nat) : Ob := ⟨E, ⟨c, 1, SW.length + 1, 0, false⟩, nxW SW at_ fill i, []⟩
theorem nxO_new (l : List Ob) (c : Nat) (SW : List Nat) (at_ fill : Nat) : newO l c 1 (SW.length + 1) fill = nxO (endL 2 l) c SW at_ fill 0 := by
  unfold newO nxO
  rw [if_neg (by decide), if_neg (by decide), nxW_zero]
theorem nxO_put (l : List Ob) (E c : Nat) (SW : List Nat) (at_ fill i : Nat) (hi : i < SW.length) : putW (l ++ [nxO E c SW at_ fill i]) l.length (if i < at_ then i else i + 1) (SW.getD i 0) = l ++ [nxO E c SW at_ fill (i + 1)] := by
  unfold putW
  rw [modify_end]
  congr 2
  unfold nxO
  dsimp only
  rw [nxW_step SW at_ fill i hi]
theorem nat_next {i z i1 : Nat} (h : i + 1 = i1) (hin : i < z) : i1 ≤ z ∧ z - i1 < z - i := by omega
/-- What Intern wants to know of memory: its root, its list of symbols. -/
structure SymAt (l : List Ob) (x r k : Nat) (ro lo : Ob) (c13 c14 : Nat) : Prop where
  hr : l[r]? = some ro
  rk : ro.hd.kind ≠ 2
  rx : x = 2 * ro.at_
  rw : ro.words.length = 24
  w4 : ro.words[4]? = some (2 * lo.at_)
  w13 : ro.words[13]? = some c13
  w14 : ro.words[14]? = some c14
  hk : l[k]? = some lo
  lk : lo.hd.kind ≠ 2
  ls : lo.hd.size = lo.words.length
  o13 : c13 ≠ 0 ∧ c13 % 2 = 0
  o14 : c14 ≠ 0 ∧ c14 % 2 = 0
theorem SymAt.app {l : List Ob} {x r k : Nat} {ro lo : Ob} {c13 c14 : Nat} (h : SymAt l x r k ro lo c13 c14) (m : List Ob) : SymAt (l ++ m) x r k ro lo c13 c14 :=
  ⟨by rw [List.getElem?_append_left (List.getElem?_eq_some_iff.1 h.hr).1]; exact h.hr, h.rk, h.rx, h.rw, h.w4, h.w13, h.w14, by rw [List.getElem?_append_left (List.getElem?_eq_some_iff.1 h.hk).1]; exact h.hk, h.lk, h.ls, h.o13, h.o14⟩
def inL (l : List Ob) (r c13 c14 at_ : Nat) (lo : Ob) (s : Bts) : List Ob :=
  putW ((l ++ [rawO (endL 2 l) c13 s s.length]) ++ [nxO (endL 2 (l ++ [rawO (endL 2 l) c13 s s.length])) c14 lo.words at_ (2 * endL 2 l) lo.words.length]) r 4 (2 * endL 2 (l ++ [rawO (endL 2 l) c13 s s.length]))
def InR (B : Bks) (N : Nat) (l l' : List Ob) (last : Nat) (w : World) (e : Ending) (w' : World) : Prop :=
  e = .returned (.tuple #[.int .u64 ((2 * endL 2 l : Nat) : Int), .int .i64 0]) ∧ Mem B N l' last w' ∧ But (HB B) w w'
set_option maxRecDepth 100000 in
set_option maxHeartbeats 3200000 in
theorem intern_new (B : Bks) (N : Nat) (l : List Ob) (last x r k : Nat) (ro lo : Ob) (c13 c14 : Nat) (T : List Bts) (s : Bts) (w : World) (hm : Mem B N l last w) (hS : SymAt l x r k ro lo c13 c14) (hx : x < 18446744073709551616)
    (hT : Texts l (2 * lo.at_) 1 lo T) (hR : Rises T) (hnf : T[spotL T s]? ≠ some s) (hsl : s.length ≤ 4096) (hz : lo.words.length ≤ 100000) (hfit : endL 2 l + needN s.length lo.words.length ≤ N) :
    Calls Try.prog 16 #[.pointer (some ⟨B.h, 0, none⟩), .int .u64 (x : Int), .string ⟨s.toArray⟩] w (InR B N l (inL l r c13 c14 (spotL T s) lo s) last w) := by
  have hf := hm.1
  have hg4 : ∀ m, Fine N (l ++ m) last → getL (l ++ m) x 4 = (2 * lo.at_, 0) := fun m h => getL_at (i := 4) h (hS.app m).hr hS.rk hS.rx hS.w4
  have hg0 : getL l x 4 = (2 * lo.at_, 0) := getL_at (i := 4) hf hS.hr hS.rk hS.rx hS.w4
  have hg13 : getL l x 13 = (c13, 0) := getL_at (i := 13) hf hS.hr hS.rk hS.rx hS.w13
  have hlo : findO l (2 * lo.at_) = some lo := by rw [Nat.mul_comm]; exact find_at hf.ch hS.hk
  have hLlt : 2 * lo.at_ < 18446744073709551616 := by have := place_lt hf hS.hk; have := hf.hi; omega
  have HF := Lib.hid (fun v (h : Mem B N l last v) => ifind_any B N l last x lo T s v h hx (by rw [hg0]; exact hlo) (by rw [hg0]; exact hT) hR)
  rw [decide_eq_false hnf] at HF
  have HND := Lib.hid (fun v (h : Mem B N l last v) => need_any B N l last x lo T s v h hx (by rw [hg0]; exact hlo) (by rw [hg0]; exact hT) hR hnf (by omega))
  have HFR := Lib.hid (fun v (h : Mem B N l last v) => mem_free B N l last v h)
  have HS4 := Lib.hid (fun v (h : Mem B N l last v) => special_any B N l last x 4 v h hx)
  have HS13 := Lib.hid (fun v (h : Mem B N l last v) => special_any B N l last x 13 v h hx)
  rw [hg0] at HS4
  rw [hg13] at HS13
  have HHD := Lib.hid (fun v (h : Mem B N l last v) => Head_some B N l last (2 * lo.at_) lo v h hLlt hlo)
  have HPL := Lib.hid (fun v (h : Mem B N l last v) => place_any B N l last (2 * lo.at_) 1 lo T s v h hLlt hlo (by omega) (by omega) hT hR)
  rw [decide_eq_false hnf] at HPL
  have hrok := hf.ok ro (List.mem_of_getElem? hS.hr)
  have hwlt : ∀ y ∈ ro.words, y < 18446744073709551616 := (hrok.words hS.rk).2.2
  have hc13 : c13 < 18446744073709551616 := hwlt _ (List.mem_of_getElem? hS.w13)
  have hc14 : c14 < 18446744073709551616 := hwlt _ (List.mem_of_getElem? hS.w14)
  have hNh := hf.hi
  have hsz : endL 2 l + 2 + (s.length + 7) / 8 ≤ N ∧ endL 2 l + 2 + (s.length + 7) / 8 + 2 + (lo.words.length + 1) ≤ N := by unfold needN at hfit; omega
  have HRW := Lib.hid (fun v (h : Mem B N l last v) => raw_any B N l last c13 s v h ((okB_iff _).2 ⟨hS.o13.1, hS.o13.2, by dsimp only; omega, by dsimp only; omega, by dsimp only; omega⟩) hc13 (by omega) hsz.1)
  obtain ⟨E, hE⟩ : ∃ E, endL 2 l = E := ⟨_, rfl⟩
  obtain ⟨l1, hl1⟩ : ∃ l1, l ++ [rawO (endL 2 l) c13 s s.length] = l1 := ⟨_, rfl⟩
  obtain ⟨E2, hE2⟩ : ∃ E, endL 2 l1 = E := ⟨_, rfl⟩
  have hE2v : E2 = E + 2 + (s.length + 7) / 8 := by rw [← hE2, ← hl1, alloc_end, ← hE]; rfl
  have hS1 : SymAt l1 x r k ro lo c13 c14 := by rw [← hl1]; exact hS.app _
  have hg14 : ∀ v, Mem B N l1 last v → getL l1 x 14 = (c14, 0) := fun v h => getL_at (i := 14) h.1 hS1.hr hS1.rk hS1.rx hS1.w14
  have HS14 := Lib.hid (fun v (h : Mem B N l1 last v) => special_any B N l1 last x 14 v h hx)
  have HAL := Lib.hid (fun v (h : Mem B N l1 last v) => alloc_any B N l1 last c14 1 (lo.words.length + 1) (2 * E) v h ((okB_iff _).2 ⟨hS.o14.1, hS.o14.2, by dsimp only; omega, by dsimp only; omega, by dsimp only; omega⟩) hc14 (by omega) (by rw [hE2]; show E2 + 2 + (lo.words.length + 1) ≤ N; omega))
  obtain ⟨at_, hat⟩ : ∃ a, spotL T s = a := ⟨_, rfl⟩
  have hatle : at_ ≤ lo.words.length := by
    have h1 := spot_le T s
    have h2 := hT.1
    rw [hS.ls, Nat.div_one] at h2
    omega
  obtain ⟨oa, ⟨kc, kk, kz, kh, km⟩, SW, ob⟩ := lo
  have hkz : kz = SW.length := hS.ls
  subst hkz
  dsimp only at HND HHD HPL HAL hz hsz hatle hfit ⊢
  unfold hdV at HHD
  unfold uV at HF HS4 HS13 HS14 HHD
  dsimp only at HHD
  obtain ⟨z, hzz⟩ : ∃ z, SW.length = z := ⟨_, rfl⟩
  obtain ⟨L, hL⟩ : ∃ L, 2 * oa = L := ⟨_, rfl⟩
  obtain ⟨X, hX⟩ : ∃ X, 2 * E = X := ⟨_, rfl⟩
  obtain ⟨X2, hX2⟩ : ∃ X, 2 * E2 = X := ⟨_, rfl⟩
  obtain ⟨n, hn⟩ : ∃ n, s.length = n := ⟨_, rfl⟩
  obtain ⟨nd, hnd⟩ : ∃ d, needN s.length SW.length = d := ⟨_, rfl⟩
  obtain ⟨fr, hfr⟩ : ∃ f, N - E = f := ⟨_, rfl⟩
  rw [hat] at HPL ⊢
  rw [hnd] at HND hfit
  rw [hE] at HFR hfit
  rw [hfr] at HFR
  rw [hL] at HS4 HHD HPL
  rw [hX] at HAL
  rw [hzz] at HHD HAL
  have e1 : decide ((4096 : Int) < (n : Int)) = false := decide_eq_false (by omega)
  have e2 : ¬ (4096 : Int) < (n : Int) := by omega
  have e3 : decide (4096 < n) = false := decide_eq_false (by omega)
  have e4 : decide ((fr : Int) < (nd : Int)) = false := decide_eq_false (by omega)
  have e5 : ¬ (fr : Int) < (nd : Int) := by omega
  have e6 : decide (fr < nd) = false := decide_eq_false (by omega)
  have HM := Lib.hid hm
  have HS0 := Lib.hid hS
  have HS1 := Lib.hid hS1
  have HG14 := Lib.hid hg14
  have HATL := Lib.hid hatle
  have HZ := Lib.hid hz
  have HZZ := Lib.hid hzz
  have HLX := Lib.hid hL
  have HXX := Lib.hid hX
  have HX2 := Lib.hid hX2
  have HEE := Lib.hid hE
  have HE2 := Lib.hid hE2
  have HL1 := Lib.hid hl1
  have HAT := Lib.hid hat
  have HF4 := Lib.hid hf
  obtain ⟨F, hFF⟩ : ∃ F, seekL l (getL l x 4).1 1 T s = F := ⟨_, rfl⟩
  rw [hFF] at HF
  clear hm hS hx hT hR hnf hsl hz hfit hf hg4 hg0 hg13 hlo hLlt hrok hwlt hc13 hc14 hNh hsz hE hl1 hE2 hE2v hS1 hg14 hat hatle hzz hL hX hX2 hnd hfr hFF
  go_enter Try.func16, Try.ntmps16
  go_wp2_with fail
  refine (HF.out w HM.out).mono ?_; rintro e w1 ⟨rfl, hb1⟩
  have HM1 := Lib.hid (HM.out.bel hb1)
  have HB1 := Lib.hid hb1
  clear hb1
  go_wp2_with fail
  refine (HND.out w1 HM1.out).mono ?_; rintro e w2 ⟨rfl, hb2⟩
  have HM2 := Lib.hid (HM1.out.bel hb2)
  have HB2 := Lib.hid (HB1.out.trans (hb2.mono HB1.out.size))
  clear hb2
  go_wp2_with fail
  refine (HFR.out w2 HM2.out).mono ?_; rintro e w3 ⟨rfl, hb3⟩
  have HM3 := Lib.hid (HM2.out.bel hb3)
  have HB3 := Lib.hid (HB2.out.trans (hb3.mono HB2.out.size))
  clear hb3
  go_wp2_with fail
  refine (HS4.out w3 HM3.out).mono ?_; rintro e w4 ⟨rfl, hb4⟩
  have HM4 := Lib.hid (HM3.out.bel hb4)
  have HB4 := Lib.hid (HB3.out.trans (hb4.mono HB3.out.size))
  clear hb4
  go_wp2_with fail
  refine (HHD.out w4 HM4.out).mono ?_; rintro e w5 ⟨rfl, hb5⟩
  obtain ⟨W6, hal6⟩ : ∃ W, w5.alloc (.cells #[.int .u64 (kc : Int), .int .i64 (kk : Int), .int .i64 (z : Int), .int .u32 (kh : Int), .bool km] HDT) = W := ⟨_, rfl⟩
  have b6 : Below w5.heap.size w5 W6 := by rw [← hal6]; exact alloc_bel w5 _
  have q6 : Blk HDT w5.heap.size #[.int .u64 (kc : Int), .int .i64 (kk : Int), .int .i64 (z : Int), .int .u32 (kh : Int), .bool km] W6 := by rw [← hal6]; exact Blk.made w5
  have HM6 := Lib.hid ((HM4.out.bel hb5).bel b6)
  have HB6 := Lib.hid ((HB4.out.trans (hb5.mono HB4.out.size)).trans (b6.mono (Nat.le_trans HB4.out.size hb5.size)))
  obtain ⟨hb, hhb⟩ : ∃ b, w5.heap.size = b := ⟨_, rfl⟩
  rw [hhb] at q6
  have HQ6 := Lib.hid q6
  clear hb5 b6 q6
  go_wp2_with fail
  refine (HPL.out W6 HM6.out).mono ?_; rintro e w7 ⟨rfl, hb7⟩
  have HM7 := Lib.hid (HM6.out.bel hb7)
  have HB7 := Lib.hid (HB6.out.trans (hb7.mono HB6.out.size))
  have HQ7 := Lib.hid (HQ6.out.below hb7 HQ6.out.lt)
  clear hb7 hal6
  go_wp2_with fail
  refine (HS13.out w7 HM7.out).mono ?_; rintro e w8 ⟨rfl, hb8⟩
  have HM8 := Lib.hid (HM7.out.bel hb8)
  have HB8 := Lib.hid (HB7.out.trans (hb8.mono HB7.out.size))
  have HQ8 := Lib.hid (HQ7.out.below hb8 HQ7.out.lt)
  clear hb8 hhb
  go_wp2_with fail
  refine (HRW.out w8 HM8.out).mono ?_; rintro e w9 ⟨rfl, hM9, hb9⟩
  have hnHB : ¬ HB B hb := by
    obtain ⟨-, ws, -, hR⟩ := HM8.out
    rintro (e | e | e | e)
    · exact blk_ne HQ8.out hR.hp (by decide) e
    · exact blk_ne HQ8.out hR.rc (by decide) e
    · exact blk_ne HQ8.out hR.bs.st (by decide) e
    · exact blk_ne HQ8.out hR.bs.rs (by decide) e
  have hM9' : Mem B N l1 last w9 := by rw [← HL1.out]; exact hM9
  have HM9 := Lib.hid (hM9'.bel (below_drewN w9 1))
  have HB9 : Hid (But (HB B) w (w9.drewN 1)) := Lib.hid (((But.of HB8.out).trans hb9).trans (But.of (below_drewN w9 1)))
  have hq9 := (hb9.blk HQ8.out hnHB).below (below_drewN w9 1) (hb9.blk HQ8.out hnHB).lt
  have HQ9 := Lib.hid hq9
  have HNHB := Lib.hid hnHB
  have hc9 : w9.drew.cell? ⟨hb, 2, none⟩ = some (.int .i64 (z : Int)) := hq9.c 2 _ rfl
  have HC9 := Lib.hid hc9
  have hz2 : z ≤ 100000 := by have := HZ.out; have := HZZ.out; omega
  obtain ⟨z1, hz1⟩ : ∃ y, z + 1 = y := ⟨_, rfl⟩
  rw [hz1] at HAL
  have hzi1 : (z : Int) + 1 = (z1 : Int) := by omega
  have hwz : IntKind.i64.wrap (z1 : Int) = (z1 : Int) := by rw [IntKind.wrap_i64]; omega
  have hwz' : wrap64 (z1 : Int) = (z1 : Int) := by unfold wrap64; omega
  have HZ1 := Lib.hid hz1
  have HZ2 := Lib.hid hz2
  rw [HEE.out, HXX.out]
  clear hM9 hM9' hb9 hnHB hq9 hc9 hz1 hz2
  go_wp2_with fail
  refine wp_region_noPanic ?_
  refine Hd.start (fun v => v.cell? ⟨hb, 2, none⟩ = some (.int .i64 (z : Int))) (by kernel_rfl) HC9.out (fun hH0 => ?_)
  refine Hd.tk 0 8 hH0 ?_
  refine Hd.tk 1 3 hH0 ?_
  refine Hd.tk 2 3 hH0 ?_
  refine Hd.tk 4 5 hH0 ?_
  refine Hd.tk 5 6 hH0 ?_
  refine Hd.tk 6 8 hH0 ?_
  refine Hd.tk 7 8 hH0 ?_
  refine Hd.on 3 (fun K hK => ?_)
  go_simp
  refine (HS14.out _ HM9.out).mono ?_; rintro e w10 ⟨rfl, hb10⟩
  have HM10 := Lib.hid (HM9.out.bel hb10)
  rw [HG14.out _ HM9.out]
  have HB10 : Hid (But (HB B) w w10) := Lib.hid (HB9.out.then_bel hb10)
  have hq10 := HQ9.out.below hb10 HQ9.out.lt
  have HQ10 := Lib.hid hq10
  have hc10 : w10.cell? ⟨hb, 2, none⟩ = some (.int .i64 (z : Int)) := hq10.c 2 _ rfl
  clear hb10 hq10
  refine hK.out _ _ hc10 (fun hH1 => ?_)
  clear hK K
  try simp only [Act.put, List.setIfInBounds_toArray, List.set_cons_zero, List.set_cons_succ]
  refine Hd.on 8 (fun K hK => ?_)
  go_simp
  refine (HAL.out w10 HM10.out).mono ?_; rintro e w11 ⟨rfl, hM11, hb11⟩
  have hM11' : Mem B N (l1 ++ [nxO E2 c14 SW at_ X 0]) last w11 := by
    have h := nxO_new l1 c14 SW at_ X
    rw [HE2.out, HZZ.out, HZ1.out] at h
    rw [← h]
    exact hM11
  have HM11 := Lib.hid hM11'
  have HB11 : Hid (But (HB B) w w11) := Lib.hid (HB10.out.trans hb11)
  have hq11 := hb11.blk HQ10.out HNHB.out
  have hc11 : w11.cell? ⟨hb, 2, none⟩ = some (.int .i64 (z : Int)) := hq11.c 2 _ rfl
  rw [HE2.out, HX2.out]
  clear hM11 hM11' hb11 hq11
  refine hK.out _ _ hc11 (fun hH2 => ?_)
  clear hK K
  try simp only [Act.put, List.setIfInBounds_toArray, List.set_cons_zero, List.set_cons_succ]
  refine Hd.tk 9 10 hH2 ?_
  refine Hd.tk 10 12 hH2 ?_
  refine Hd.tk 11 13 hH2 ?_
  refine Hd.tk 12 13 hH2 ?_
  refine Hd.la 13 (fun K hK => ?_)
  go_simp
  refine hK.out _ _ ?_
  clear hK K
  try simp only [Act.put, List.setIfInBounds_toArray, List.set_cons_zero, List.set_cons_succ]
  simp only [NoPanic]
  clear hH0 hH1 hH2 hc10
  go_wp2_with fail
  go_loopw [89, 19, 20, 21] (fun y _ _ _ wr => ∃ i : Nat, y = .int .i64 (i : Int) ∧ i ≤ z ∧ Hid (Mem B N (l1 ++ [nxO E2 c14 SW at_ X i]) last wr ∧ But (HB B) w wr)) (fun y _ _ _ _ => z - (intOf y).toNat)
  case atStart => exact ⟨0, rfl, Nat.zero_le _, Lib.hid ⟨HM11.out, HB11.out⟩⟩
  case round =>
    obtain ⟨i, rfl, hi, hI⟩ := hrel
    have hzi : (z : Int) ≤ 100000 := by have := HZ2.out; omega
    have hii : (i : Int) ≤ 100000 := by have := HZ2.out; omega
    by_cases hin : i < z
    · have d1 : decide ((i : Int) < (z : Int)) = true := decide_eq_true (by omega)
      have d2 : (i : Int) < (z : Int) := by omega
      have d3 : decide (i < z) = true := decide_eq_true hin
      have hiS : i < SW.length := by rw [HZZ.out]; exact hin
      obtain ⟨y, hy⟩ : ∃ y, SW.getD i 0 = y := ⟨_, rfl⟩
      have hyg : SW[i]? = some y := by rw [← hy, List.getD_eq_getElem?_getD, List.getElem?_eq_getElem hiS]; rfl
      have hSx := HS1.out.app [nxO E2 c14 SW at_ X i]
      have hLl : L < 18446744073709551616 := by
        have h1 := place_lt hI.out.1.1 hSx.hk
        have h2 := hI.out.1.1.hi
        have h3 : 2 * oa = L := HLX.out
        dsimp only at h1
        omega
      have hyl : y < 18446744073709551616 := ((hI.out.1.1.ok _ (List.mem_of_getElem? hSx.hk)).words hSx.lk).2.2 y (List.mem_of_getElem? hyg)
      have hG := get_any B N _ last L (i : Int) wr hI.out.1 hLl
      rw [getL_at (i := i) hI.out.1.1 hSx.hk hSx.lk (show L = 2 * oa from HLX.out.symm) hyg] at hG
      unfold uV at hG
      have HG := Lib.hid hG
      have HYL := Lib.hid hyl
      have HPUT : Hid (∀ (v : World) (p : Nat), Mem B N (l1 ++ [nxO E2 c14 SW at_ X i]) last v → p = (if i < at_ then i else i + 1) → Calls Try.prog 37 #[.pointer (some ⟨B.h, 0, none⟩), .int .u64 (X2 : Int), .int .i64 (p : Int), .int .u64 (y : Int)] v (StR B N (l1 ++ [nxO E2 c14 SW at_ X (i + 1)]) last v)) := Lib.hid (fun v p hv hp => by
        have h := hput_any B N _ last l1.length p X2 y (nxO E2 c14 SW at_ X i) v hv (List.getElem?_concat_length ..) HX2.out.symm (show (1 : Nat) ≠ 2 by decide) (by show p < (nxW SW at_ X i).length; rw [nxW_len, hp]; split <;> omega) HYL.out
        have e := nxO_put l1 E2 c14 SW at_ X i hiS
        rw [← hp, hy] at e
        rw [e] at h
        exact h)
      have HI := Lib.hid hI.out
      clear hI hy hyg hSx hLl hyl hG hiS
      by_cases hia : i < at_
      · have g1 : decide ((i : Int) < (at_ : Int)) = true := decide_eq_true (by omega)
        have g2 : (i : Int) < (at_ : Int) := by omega
        have g3 : decide (i < at_) = true := decide_eq_true hia
        go_wp2_with fail
        refine HG.out.mono ?_; rintro e v1 ⟨rfl, hb1⟩
        have HM1' := Lib.hid (HI.out.1.bel hb1)
        have HB1' := Lib.hid (HI.out.2.then_bel hb1)
        clear hb1
        go_wp2_with fail
        refine (HPUT.out v1 i HM1'.out (by rw [if_pos hia])).mono ?_; rintro e v2 ⟨rfl, hM2, hb2⟩
        have HE9 := Lib.hid (And.intro hM2 (HB1'.out.trans hb2))
        clear hM2 hb2
        go_wp2_with fail
        exact ⟨⟨i + 1, by simp, by omega, HE9⟩, by simp only [intOf]; omega⟩
      · have g1 : decide ((i : Int) < (at_ : Int)) = false := decide_eq_false (by omega)
        have g2 : ¬ (i : Int) < (at_ : Int) := by omega
        have g3 : decide (i < at_) = false := decide_eq_false hia
        obtain ⟨i1, hi1⟩ : ∃ j, i + 1 = j := ⟨_, rfl⟩
        have hii1 : (i : Int) + 1 = (i1 : Int) := by omega
        have hwi : IntKind.i64.wrap (i1 : Int) = (i1 : Int) := by rw [IntKind.wrap_i64]; omega
        have hwi' : wrap64 (i1 : Int) = (i1 : Int) := by unfold wrap64; omega
        have HI1 := Lib.hid hi1
        clear hi1
        go_wp2_with fail
        refine HG.out.mono ?_; rintro e v1 ⟨rfl, hb1⟩
        have HM1' := Lib.hid (HI.out.1.bel hb1)
        have HB1' := Lib.hid (HI.out.2.then_bel hb1)
        clear hb1
        go_wp2_with fail
        refine (HPUT.out v1 i1 HM1'.out (by rw [if_neg hia, HI1.out])).mono ?_; rintro e v2 ⟨rfl, hM2, hb2⟩
        have HE9 := Lib.hid (And.intro hM2 (HB1'.out.trans hb2))
        clear hM2 hb2
        go_wp2_with fail
        rw [HI1.out] at HE9
        refine ⟨⟨i1, rfl, (nat_next HI1.out hin).1, HE9⟩, ?_⟩
        show z - ((i1 : Int)).toNat < z - ((i : Int)).toNat
        rw [Int.toNat_natCast, Int.toNat_natCast]
        exact (nat_next HI1.out hin).2
    · obtain rfl : i = z := by omega
      have d1 : decide ((i : Int) < (i : Int)) = false := decide_eq_false (by omega)
      have d3 : decide (i < i) = false := decide_eq_false (by omega)
      have hSx := HS1.out.app [nxO E2 c14 SW at_ X i]
      have hX2l : X2 < 18446744073709551616 := by
        have h1 := place_lt hI.out.1.1 (List.getElem?_concat_length (l := l1) (a := nxO E2 c14 SW at_ X i))
        have h2 := hI.out.1.1.hi
        have h3 : 2 * E2 = X2 := HX2.out
        have h4 : (nxO E2 c14 SW at_ X i).at_ = E2 := rfl
        omega
      have HP := Lib.hid (hput_any B N _ last r 4 x X2 ro wr hI.out.1 hSx.hr hSx.rx hSx.rk (by rw [hSx.rw]; omega) hX2l)
      have HB9' := Lib.hid hI.out.2
      have h4 : ((4 : Nat) : Int) = 4 := rfl
      rw [h4] at HP
      have hfin : putW (l1 ++ [nxO E2 c14 SW at_ X i]) r 4 X2 = inL l r c13 c14 at_ ⟨oa, ⟨kc, kk, SW.length, kh, km⟩, SW, ob⟩ s := by
        unfold inL
        dsimp only
        rw [HL1.out, HEE.out, HE2.out, HXX.out, HX2.out, HZZ.out]
      have HFIN := Lib.hid hfin
      clear hI hSx hX2l h4 hfin
      go_wp2_with fail
      refine HP.out.mono ?_; rintro e v1 ⟨rfl, hM2, hb2⟩
      rw [HFIN.out] at hM2
      have HE9 := Lib.hid (And.intro hM2 (HB9'.out.trans hb2))
      clear hM2 hb2
      go_wp2_with fail
      go_ret2
      exact ⟨ret2 (vint (by rw [HEE.out, HXX.out])) rfl, HE9.out.1, HE9.out.2⟩
end Hp
end Go.Proofs.Ytojblndlchcjeaa
