/- Chapters 08 and 17, the walk, 7: sort.Search; intern's special, place, Global. -/
import Derived.Test.YtojblndlchcjeaaHpW6
import Derived.Test.YtojblndlchcjeaaHpAa
import Derived.Shelf.Abstract
set_option linter.unusedVariables false
namespace Go.Proofs.Ytojblndlchcjeaa
open Go.RowKit
namespace Hp
open Bs Sm
def Ent (kf : Nat) : Prop := ∀ args w, (callFunc kf args).run Try.prog w = .ok (.enter kf args) w
theorem bytes_any (B : Bks) (N : Nat) (l : List Ob) (last x : Nat) (w : World) (hm : Mem B N l last w) (hx : x < 18446744073709551616) :
    Calls Try.prog 50 #[.pointer (some ⟨B.h, 0, none⟩), .int .u64 (x : Int)] w (ByR (bytesL l x).1 (bytesL l x).2 w) := by
  by_cases h0 : (bytesL l x).2 = 0
  · cases ho : findO l x with
    | none => unfold bytesL at h0; rw [ho] at h0; simp at h0
    | some o =>
      have hk : o.hd.kind = 2 := by
        unfold bytesL at h0
        rw [ho] at h0
        dsimp only at h0
        by_cases h : o.hd.kind = 2
        · exact h
        · rw [if_pos h] at h0; simp at h0
      have e : bytesL l x = (o.bytes, 0) := by unfold bytesL; rw [ho]; dsimp only; rw [if_neg (by simp [hk])]
      rw [e]
      exact bytes_ok B N l last x o w hm hx ho hk
  · have e : bytesL l x = ([], 13) := by
      unfold bytesL at h0 ⊢
      cases ho : findO l x with
      | none => rfl
      | some o =>
        rw [ho] at h0
        dsimp only at h0 ⊢
        by_cases h : o.hd.kind ≠ 2
        · rw [if_pos h]
        · rw [if_neg h] at h0; exact absurd rfl h0
    rw [e]
    refine (bytes_err B N l last x w hm hx h0).mono fun e' w' h => ?_
    exact ⟨_, h.1, World.ownsRow_nil _ _ _ _, h.2⟩
set_option maxHeartbeats 400000 in
theorem special_any (B : Bks) (N : Nat) (l : List Ob) (last x : Nat) (i : Int) (w : World) (hm : Mem B N l last w) (hx : x < 18446744073709551616) :
    Calls Try.prog 23 #[.pointer (some ⟨B.h, 0, none⟩), .int .u64 (x : Int), .int .i64 i] w (Back (uV (getL l x i).1) w) := by
  have HG := Lib.hid (get_any B N l last x i w hm hx)
  obtain ⟨u, hu⟩ : ∃ u, (getL l x i).1 = u := ⟨_, rfl⟩
  obtain ⟨r, hr⟩ : ∃ u, (getL l x i).2 = u := ⟨_, rfl⟩
  rw [hu, hr] at HG
  rw [hu]
  unfold uV at HG ⊢
  clear hm hx hu hr
  go_enter Try.func23, Try.ntmps23
  go_wp2_with fail
  refine HG.out.mono ?_; rintro e w1 ⟨rfl, hb1⟩
  have HB := Lib.hid hb1
  clear hb1
  go_wp2_with fail
  go_ret
  exact ⟨rfl, HB.out⟩
set_option maxRecDepth 100000 in
set_option maxHeartbeats 1600000 in
/-- sort.Search over a closure that only reads: k: how many say no. -/
theorem search_any (g : Nat) (cb : Array Value) (n k : Nat) (w : World) (hen : Ent g) (hn : n ≤ 16777216) (hk : k ≤ n)
    (hf : ∀ (w' : World) (i : Nat), Below w.heap.size w w' → i < n → Calls Try.prog g (#[.int .i64 (i : Int)] ++ cb) w' (Back (.bool (decide (k ≤ i))) w')) :
    Calls Try.prog 51 #[.int .i64 (n : Int), .func (.func g) #[] cb] w (Back (.int .i64 (k : Int)) w) := by
  have HF := Lib.hid hf
  have hn2 : (n : Int) ≤ 16777216 := by omega
  unfold Ent at hen
  clear hf
  go_enter Try.func51, Try.ntmps51
  go_wp2_with fail
  go_loopw [5, 6] (fun x y wr => ∃ i j : Nat, x = .int .i64 (i : Int) ∧ y = .int .i64 (j : Int) ∧ i ≤ k ∧ k ≤ j ∧ j ≤ n ∧ Below w.heap.size w wr) (fun x y _ => (intOf y).toNat - (intOf x).toNat)
  case atStart => exact ⟨0, n, rfl, rfl, Nat.zero_le _, hk, Nat.le_refl _, Below.refl _ _⟩
  case round =>
    obtain ⟨i, j, rfl, rfl, h1, h2, h3, hb⟩ := hrel
    have HB := Lib.hid hb
    clear hb
    by_cases hij : i < j
    · have hd : decide ((i : Int) < (j : Int)) = true := by simpa using hij
      have hd2 : decide (i < j) = true := by simpa using hij
      have i1 : (i : Int) ≤ 16777216 := by omega
      have j1 : (j : Int) ≤ 16777216 := by omega
      obtain ⟨h, hh⟩ : ∃ h, (i + j) / 2 = h := ⟨_, rfl⟩
      have he : ((i : Int) + (j : Int)) / 2 = (h : Int) := by omega
      have g1 : i ≤ h := by omega
      have g2 : h < j := by omega
      have HC := Lib.hid (HF.out wr h HB.out (by omega))
      have h4 : (h : Int) ≤ 16777216 := by omega
      clear hh
      by_cases hkh : k ≤ h
      · rw [decide_eq_true hkh] at HC
        go_wp2_with fail
        refine HC.out.mono ?_; rintro e w1 ⟨rfl, hb1⟩
        have HB1 := Lib.hid (HB.out.trans (hb1.mono HB.out.size))
        clear hb1
        go_wp2_with fail
        exact ⟨⟨i, h, rfl, rfl, h1, hkh, by omega, HB1.out⟩, by simp only [intOf]; omega⟩
      · rw [decide_eq_false hkh] at HC
        go_wp2_with fail
        refine HC.out.mono ?_; rintro e w1 ⟨rfl, hb1⟩
        have HB1 := Lib.hid (HB.out.trans (hb1.mono HB.out.size))
        clear hb1
        go_wp2_with fail
        exact ⟨⟨h + 1, j, by simp, rfl, by omega, h2, h3, HB1.out⟩, by simp only [intOf]; omega⟩
    · obtain rfl : i = k := by omega
      have hd : decide ((i : Int) < (j : Int)) = false := by simp; omega
      have hd2 : decide (i < j) = false := by simp; omega
      clear h1 h2 h3 hij
      go_wp2_with fail
      go_ret
      exact ⟨rfl, HB.out⟩
/-! ### place -/
theorem bytesLess_eq : ∀ (x y : List UInt8), Op.bytesLess x y = decide (x < y)
  | [], [] => by simp [Op.bytesLess]
  | _ :: _, [] => by simp [Op.bytesLess]
  | [], _ :: _ => by simp [Op.bytesLess]
  | a :: x, b :: y => by
    rw [Op.bytesLess, bytesLess_eq x y]
    simp only [List.cons_lt_cons_iff]
    by_cases h1 : a < b <;> by_cases h2 : a = b <;> by_cases h3 : x < y <;> simp [h1, h2, h3]
abbrev PPT : Nat := 27
/-- What the closure captured, in blocks of one cell: the heap, the list, the step. -/
structure Cap1 (B : Bks) (L n ba bb bc : Nat) (w : World) : Prop where
  a : Blk PPT ba #[.pointer (some ⟨B.h, 0, none⟩)] w
  b : Blk WT bb #[.int .u64 (L : Int)] w
  c : Blk 3 bc #[.int .i64 (n : Int)] w
theorem Cap1.bel {B : Bks} {L n ba bb bc : Nat} {w w' : World} (h : Cap1 B L n ba bb bc w) (hb : Below w.heap.size w w') : Cap1 B L n ba bb bc w' := ⟨h.a.below hb h.a.lt, h.b.below hb h.b.lt, h.c.below hb h.c.lt⟩
/-- The text of the i-th, n words apart. -/
def textL (l : List Ob) (L : Nat) (i : Int) : Bts := (bytesL l (getL l L i).1).1
theorem get_lt {l : List Ob} {N last : Nat} (hf : Fine N l last) (x : Nat) (i : Int) : (getL l x i).1 < 18446744073709551616 := by
  unfold getL
  cases h : findO l x with
  | none => exact Nat.two_pow_pos 64
  | some o =>
    dsimp only
    split
    · exact Nat.two_pow_pos 64
    · rename_i hk
      split
      · exact Nat.two_pow_pos 64
      · dsimp only
        rw [List.getD_eq_getElem?_getD]
        cases e : o.words[i.toNat]? with
        | none => exact Nat.two_pow_pos 64
        | some y => exact ((hf.ok o (find_some' h).1).words hk).2.2 y (List.mem_of_getElem? e)
set_option maxRecDepth 100000 in
set_option maxHeartbeats 800000 in
theorem place1_any (B : Bks) (N : Nat) (l : List Ob) (last L n ba bb bc i : Nat) (w : World) (hm : Mem B N l last w) (hL : L < 18446744073709551616) (hc : Cap1 B L n ba bb bc w) (hn : n ≤ 2) (hi : i ≤ 16777216) :
    Calls Try.prog 49 #[.int .i64 (i : Int), .pointer (some ⟨ba, 0, none⟩), .pointer (some ⟨bb, 0, none⟩), .pointer (some ⟨bc, 0, none⟩)] w (Back (.string ⟨(textL l L ((i * n : Nat) : Int)).toArray⟩) w) := by
  have HG := Lib.hid (get_any B N l last L ((i * n : Nat) : Int) w hm hL)
  have HY := Lib.hid (fun w (hm : Mem B N l last w) => bytes_any B N l last (getL l L ((i * n : Nat) : Int)).1 w hm (get_lt hm.1 _ _))
  have hmul : (i : Int) * (n : Int) = ((i * n : Nat) : Int) := by push_cast; rfl
  have hle : i * n ≤ 33554432 := by
    have : i * n ≤ 16777216 * 2 := Nat.mul_le_mul hi hn
    omega
  unfold textL
  obtain ⟨m, hmm⟩ : ∃ m, i * n = m := ⟨_, rfl⟩
  rw [hmm] at HG HY hmul hle ⊢
  obtain ⟨u, hu⟩ : ∃ u, (getL l L (m : Int)).1 = u := ⟨_, rfl⟩
  obtain ⟨r, hr⟩ : ∃ u, (getL l L (m : Int)).2 = u := ⟨_, rfl⟩
  rw [hu, hr] at HG
  rw [hu] at HY ⊢
  obtain ⟨b, hb⟩ : ∃ b, (bytesL l u).1 = b := ⟨_, rfl⟩
  obtain ⟨er, her⟩ : ∃ b, (bytesL l u).2 = b := ⟨_, rfl⟩
  rw [hb, her] at HY
  rw [hb]
  have a0 := hc.a.c 0 _ rfl
  have a1 := hc.b.c 0 _ rfl
  have a2 := hc.c.c 0 _ rfl
  have HM := Lib.hid hm
  have HC := Lib.hid hc
  have hw : IntKind.i64.wrap ((i : Int) * (n : Int)) = (m : Int) := by rw [hmul, IntKind.wrap_i64]; omega
  have hw2 : wrap64 ((i : Int) * (n : Int)) = (m : Int) := by rw [hmul]; unfold wrap64; omega
  unfold uV at HG
  clear hm hL hc hn hi hmm hle hu hr hb her hmul
  go_enter Try.func49, Try.ntmps49
  go_wp2_with fail
  refine HG.out.mono ?_; rintro e w1 ⟨rfl, hb1⟩
  have HM1 := Lib.hid (HM.out.bel hb1)
  have HC1 := Lib.hid (HC.out.bel hb1)
  have a3 := HC1.out.a.c 0 _ rfl
  have HB1 := Lib.hid hb1
  clear hb1
  go_wp2_with fail
  refine (HY.out w1 HM1.out).mono ?_; rintro e w2 ⟨v, rfl, hown, hb2⟩
  have hcv := own_text (P := Try.prog) 48 9 U8 (by kernel_rfl) (by kernel_rfl) (by kernel_rfl) hown
  have HB2 := Lib.hid (HB1.out.trans (hb2.mono HB1.out.size))
  clear hb2 hown
  go_wp2_with fail
  go_ret
  exact ⟨rfl, HB2.out⟩
abbrev FNT : Nat := 119
theorem ent_place1 : Ent 49 := enters_of Try.func49 (by kernel_rfl) rfl
theorem ent_place2 : Ent 52 := enters_of Try.func52 (by kernel_rfl) rfl
set_option maxRecDepth 100000 in
set_option maxHeartbeats 1600000 in
theorem place2_any (B : Bks) (N : Nat) (l : List Ob) (last L n ba bb bc bf bs i : Nat) (s : Bts) (w : World) (hm : Mem B N l last w) (hL : L < 18446744073709551616) (hc : Cap1 B L n ba bb bc w)
    (hf : Blk FNT bf #[.func (.func 49) #[] #[.pointer (some ⟨ba, 0, none⟩), .pointer (some ⟨bb, 0, none⟩), .pointer (some ⟨bc, 0, none⟩)]] w) (hs : Blk 9 bs #[.string ⟨s.toArray⟩] w) (hn : n ≤ 2) (hi : i ≤ 16777216) :
    Calls Try.prog 52 #[.int .i64 (i : Int), .pointer (some ⟨bf, 0, none⟩), .pointer (some ⟨bs, 0, none⟩)] w (Back (.bool (!(decide (textL l L ((i * n : Nat) : Int) < s)))) w) := by
  have HP := Lib.hid (fun w (hm : Mem B N l last w) (hc : Cap1 B L n ba bb bc w) => place1_any B N l last L n ba bb bc i w hm hL hc hn hi)
  have hen := ent_place1
  unfold Ent at hen
  have HM := Lib.hid hm
  have HC := Lib.hid hc
  have f0 := hf.c 0 _ rfl
  have s0 := hs.c 0 _ rfl
  have hS : ∀ v, Below w.heap.size w v → (v.cell? ⟨bf, 0, none⟩ = some (.func (.func 49) #[] #[.pointer (some ⟨ba, 0, none⟩), .pointer (some ⟨bb, 0, none⟩), .pointer (some ⟨bc, 0, none⟩)]) ∧ v.cell? ⟨bs, 0, none⟩ = some (.string ⟨s.toArray⟩)) :=
    fun v hb => ⟨(hf.below hb hf.lt).c 0 _ rfl, (hs.below hb hs.lt).c 0 _ rfl⟩
  have HS := Lib.hid hS
  obtain ⟨t, ht⟩ : ∃ t, textL l L ((i * n : Nat) : Int) = t := ⟨_, rfl⟩
  rw [ht] at HP ⊢
  have hbl := bytesLess_eq t s
  obtain ⟨r, hr⟩ : ∃ r, decide (t < s) = r := ⟨_, rfl⟩
  rw [hr] at hbl ⊢
  clear hm hL hc hf hs hn hi ht hr f0 s0 hS
  go_enter Try.func52, Try.ntmps52
  go_wp2_with fail
  refine wp_region_noPanic ?_
  refine Hd.start (fun v => v.cell? ⟨bf, 0, none⟩ = some (.func (.func 49) #[] #[.pointer (some ⟨ba, 0, none⟩), .pointer (some ⟨bb, 0, none⟩), .pointer (some ⟨bc, 0, none⟩)]) ∧ v.cell? ⟨bs, 0, none⟩ = some (.string ⟨s.toArray⟩)) (by kernel_rfl) (HS.out _ (below_drewN w 1)) (fun hH0 => ?_)
  refine Hd.tk 0 2 hH0 ?_
  refine Hd.tk 1 2 hH0 ?_
  refine Hd.tk 3 4 hH0 ?_
  refine Hd.on 2 (fun K hK => ?_)
  go_simp
  refine (HP.out _ (HM.out.bel (below_drewN w 1)) (HC.out.bel (below_drewN w 1))).mono ?_; rintro e w1 ⟨rfl, hb1⟩
  have HB1 := Lib.hid ((below_drewN w 1).trans (hb1.mono (below_drewN w 1).size))
  clear hb1
  refine hK.out _ _ (HS.out _ HB1.out) (fun hH1 => ?_)
  clear hK K
  try simp only [Act.put, List.setIfInBounds_toArray, List.set_cons_zero, List.set_cons_succ]
  refine Hd.tk 4 5 hH1 ?_
  refine Hd.la 5 (fun K hK => ?_)
  go_simp
  refine hK.out _ _ ?_
  clear hK K
  try simp only [Act.put, List.setIfInBounds_toArray, List.set_cons_zero, List.set_cons_succ]
  simp only [NoPanic]
  go_wp2_with fail
  go_ret
  exact ⟨rfl, HB1.out⟩
end Hp
end Go.Proofs.Ytojblndlchcjeaa
