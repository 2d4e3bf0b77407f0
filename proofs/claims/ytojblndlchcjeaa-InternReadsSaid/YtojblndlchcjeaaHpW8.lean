/- Chapters 08 and 17, the walk, 8: intern's place, Global, Find. -/
import Derived.Test.YtojblndlchcjeaaHpW7
import Derived.Laws.EntriesVeiled
set_option linter.unusedVariables false
namespace Go.Proofs.Ytojblndlchcjeaa
open Go.RowKit
namespace Hp
open Bs Sm
/-- The texts of a list's words, each n-th. -/
def Texts (l : List Ob) (L n : Nat) (o : Ob) (T : List Bts) : Prop := T.length = o.hd.size / n ∧ ∀ i : Nat, i < T.length → textL l L ((i * n : Nat) : Int) = T.getD i []
theorem spot_dec {T : List Bts} (hr : Rises T) (s : Bts) (i : Nat) (hi : i < T.length) : (!(decide (T.getD i [] < s))) = decide (spotL T s ≤ i) := by
  have h := below_iff hr s i hi
  unfold below at h
  by_cases hc : T.getD i [] < s
  · rw [decide_eq_true hc, decide_eq_false (by have := h.1 (decide_eq_true hc); omega)]; rfl
  · rw [decide_eq_false hc, decide_eq_true (by
      rcases Nat.lt_or_ge i (spotL T s) with h1 | h1
      · have := h.2 h1; rw [decide_eq_false hc] at this; cases this
      · exact h1)]; rfl
set_option maxRecDepth 100000 in
set_option maxHeartbeats 3200000 in
theorem place_any (B : Bks) (N : Nat) (l : List Ob) (last L n : Nat) (o : Ob) (T : List Bts) (s : Bts) (w : World) (hm : Mem B N l last w) (hL : L < 18446744073709551616) (ho : findO l L = some o) (hn1 : 1 ≤ n) (hn : n ≤ 2) (hT : Texts l L n o T) (hr : Rises T) :
    Calls Try.prog 24 #[.pointer (some ⟨B.h, 0, none⟩), .int .u64 (L : Int), .int .i64 (n : Int), .string ⟨s.toArray⟩] w (Back (.tuple #[.int .i64 (spotL T s : Nat), .bool (decide (T[spotL T s]? = some s))]) w) := by
  have hok := hm.1.ok o (find_some' ho).1
  have hsz := ((okB_iff _).1 hok.hd).2.2.1
  have hspot := spot_le T s
  have hTl : T.length ≤ 1048576 := by
    have := hT.1
    have h2 : o.hd.size / n ≤ o.hd.size := Nat.div_le_self _ _
    omega
  have HH := Lib.hid (fun w (hm : Mem B N l last w) => Head_some B N l last L o w hm hL ho)
  have HF := Lib.hid (fun w ba bb bc bf bs hm hc hf hs (i : Nat) (hi : i < T.length) => by
    have := place2_any B N l last L n ba bb bc bf bs i s w hm hL hc hf hs hn (by omega)
    rw [hT.2 i hi, spot_dec hr s i hi] at this
    exact this)
  have HP := Lib.hid (fun w ba bb bc hm hc (i : Nat) (hi : i < T.length) => by
    have := place1_any B N l last L n ba bb bc i w hm hL hc hn (by omega)
    rw [hT.2 i hi] at this
    exact this)
  have HTn := Lib.hid hT.1
  obtain ⟨m, hmT⟩ : ∃ m, T.length = m := ⟨_, rfl⟩
  obtain ⟨k, hk⟩ : ∃ k, spotL T s = k := ⟨_, rfl⟩
  rw [hmT] at hspot HF HP hTl HTn
  have HLn := Lib.hid hmT
  rw [hk] at hspot HF ⊢
  obtain ⟨rb, hrb⟩ : ∃ rb, decide (T[k]? = some s) = rb := ⟨_, rfl⟩
  have HRB := Lib.hid hrb
  rw [hrb]
  clear hrb
  obtain ⟨⟨hc, ks, kz, kx, km⟩, hH⟩ : ∃ h, o.hd = h := ⟨_, rfl⟩
  rw [hH] at HH hsz HTn
  unfold hdV uV at HH
  dsimp only at HH hsz HTn
  have kb : (kz : Int) ≤ 1048576 := by omega
  have hq : (kz : Int) / (n : Int) = (m : Int) := by have := HTn.out; rw [this]; simp
  have hq2 : Int.tdiv (kz : Int) (n : Int) = (m : Int) := by rw [Int.tdiv_eq_ediv_of_nonneg (by omega)]; exact hq
  have hn0 : ((n : Int) == 0) = false := by simp; omega
  have hn0' : ¬ n = 0 := by omega
  have hn0'' : ¬ (n : Int) = 0 := by omega
  have hen := ent_place1
  unfold Ent at hen
  have e2 := Lib.hid ent_place2
  -- the boxes
  obtain ⟨W1, hal1⟩ : ∃ W1, w.alloc (.cells #[.pointer (some ⟨B.h, 0, none⟩)] PPT) = W1 := ⟨_, rfl⟩
  obtain ⟨W2, hal2⟩ : ∃ W2, W1.alloc (.cells #[.int .u64 (L : Int)] WT) = W2 := ⟨_, rfl⟩
  obtain ⟨W3, hal3⟩ : ∃ W3, W2.alloc (.cells #[.int .i64 (n : Int)] 3) = W3 := ⟨_, rfl⟩
  obtain ⟨W4, hal4⟩ : ∃ W4, W3.alloc (.cells #[.string ⟨s.toArray⟩] 9) = W4 := ⟨_, rfl⟩
  have b1 : Below w.heap.size w W1 := by rw [← hal1]; exact alloc_bel _ _
  have b2 : Below W1.heap.size W1 W2 := by rw [← hal2]; exact alloc_bel _ _
  have b3 : Below W2.heap.size W2 W3 := by rw [← hal3]; exact alloc_bel _ _
  have b4 : Below W3.heap.size W3 W4 := by rw [← hal4]; exact alloc_bel _ _
  have qA : Blk PPT w.heap.size #[.pointer (some ⟨B.h, 0, none⟩)] W1 := by rw [← hal1]; exact Blk.made _
  have qB : Blk WT W1.heap.size #[.int .u64 (L : Int)] W2 := by rw [← hal2]; exact Blk.made _
  have qC : Blk 3 W2.heap.size #[.int .i64 (n : Int)] W3 := by rw [← hal3]; exact Blk.made _
  have qD : Blk 9 W3.heap.size #[.string ⟨s.toArray⟩] W4 := by rw [← hal4]; exact Blk.made _
  have b34 := b3.trans (b4.mono b3.size)
  have b24 := b2.trans (b34.mono b2.size)
  have b14 := b1.trans (b24.mono b1.size)
  have hC1 : Cap1 B L n w.heap.size W1.heap.size W2.heap.size W4 := ⟨qA.below b24 qA.lt, qB.below b34 qB.lt, qC.below b4 qC.lt⟩
  have c0 := hC1.a.c 0 _ rfl
  have c1 := hC1.b.c 0 _ rfl
  have c2 := hC1.c.c 0 _ rfl
  have c3 := qD.c 0 _ rfl
  have HC1 := Lib.hid hC1
  have HD := Lib.hid qD
  have HB := Lib.hid b14
  have HM := Lib.hid (hm.bel b14)
  clear hm hL ho hn1 hn hT hr hok hsz hmT hk hH b1 b2 b3 b4 b34 b24 b14 qA qB qC qD hC1
  go_enter Try.func24, Try.ntmps24
  go_wp2_with fail
  refine (HH.out _ HM.out).mono ?_; rintro e w5 ⟨rfl, hb5⟩
  obtain ⟨W6, hal6⟩ : ∃ W6, w5.alloc (.cells #[.int .u64 (hc : Int), .int .i64 (ks : Int), .int .i64 (kz : Int), .int .u32 (kx : Int), .bool km] HDT) = W6 := ⟨_, rfl⟩
  have b6 : Below w5.heap.size w5 W6 := by rw [← hal6]; exact alloc_bel _ _
  have qE : Blk HDT w5.heap.size #[.int .u64 (hc : Int), .int .i64 (ks : Int), .int .i64 (kz : Int), .int .u32 (kx : Int), .bool km] W6 := by rw [← hal6]; exact Blk.made _
  obtain ⟨W7, hal7⟩ : ∃ W7, W6.alloc (.cells #[.func (.func 49) #[] #[.pointer (some ⟨w.heap.size, 0, none⟩), .pointer (some ⟨W1.heap.size, 0, none⟩), .pointer (some ⟨W2.heap.size, 0, none⟩)]] FNT) = W7 := ⟨_, rfl⟩
  have b7 : Below W6.heap.size W6 W7 := by rw [← hal7]; exact alloc_bel _ _
  have qF : Blk FNT W6.heap.size #[.func (.func 49) #[] #[.pointer (some ⟨w.heap.size, 0, none⟩), .pointer (some ⟨W1.heap.size, 0, none⟩), .pointer (some ⟨W2.heap.size, 0, none⟩)]] W7 := by rw [← hal7]; exact Blk.made _
  have b57 := hb5.trans ((b6.trans (b7.mono b6.size)).mono hb5.size)
  have HM7 := Lib.hid (HM.out.bel b57)
  have HC7 := Lib.hid (HC1.out.bel b57)
  have HD7 := Lib.hid (HD.out.below b57 HD.out.lt)
  have d0 := (HC1.out.bel b57).c.c 0 _ rfl
  have d1 := (qE.below b7 qE.lt).c 2 _ rfl
  have HF7 := Lib.hid qF
  have HB7 := Lib.hid (HB.out.trans (b57.mono HB.out.size))
  clear hb5 b6 b7 qE qF b57
  go_wp2_with fail
  have HSr := Lib.hid (search_any 52 #[.pointer (some ⟨W6.heap.size, 0, none⟩), .pointer (some ⟨W3.heap.size, 0, none⟩)] m k W7 e2.out (by omega) hspot (fun w' i hb hi => by
    have := HF.out w' w.heap.size W1.heap.size W2.heap.size W6.heap.size W3.heap.size (HM7.out.bel hb) (HC7.out.bel hb) (HF7.out.below hb HF7.out.lt) (HD7.out.below hb HD7.out.lt) i hi
    exact this))
  refine HSr.out.mono ?_; rintro e w8 ⟨rfl, hb8⟩
  have HB8 := Lib.hid (HB7.out.trans (hb8.mono HB7.out.size))
  have HM8 := Lib.hid (HM7.out.bel hb8)
  have HC8 := Lib.hid (HC7.out.bel hb8)
  have HF8 := Lib.hid (HF7.out.below hb8 HF7.out.lt)
  have HD8 := Lib.hid (HD7.out.below hb8 HD7.out.lt)
  have HS := Lib.hid (show ∀ v, Below w8.heap.size w8 v → (v.cell? ⟨W6.heap.size, 0, none⟩ = some (.func (.func 49) #[] #[.pointer (some ⟨w.heap.size, 0, none⟩), .pointer (some ⟨W1.heap.size, 0, none⟩), .pointer (some ⟨W2.heap.size, 0, none⟩)]) ∧ v.cell? ⟨W3.heap.size, 0, none⟩ = some (.string ⟨s.toArray⟩)) from
    fun v hb => ⟨(HF8.out.below hb HF8.out.lt).c 0 _ rfl, (HD8.out.below hb HD8.out.lt).c 0 _ rfl⟩)
  clear hb8 HSr HF7 HC7 HM7 HD7 HB7 c0 c1 c2 c3 d0 d1
  by_cases hkm : k < m
  · have g1 : decide ((k : Int) < (m : Int)) = true := by simpa using hkm
    have g2 : decide (k < m) = true := by simpa using hkm
    have HP8 := Lib.hid (HP.out w8.drew w.heap.size W1.heap.size W2.heap.size (HM8.out.bel (below_drewN w8 1)) (HC8.out.bel (below_drewN w8 1)) k hkm)
    have hTk : T[k]? = some (T.getD k []) := by rw [List.getD_eq_getElem?_getD, List.getElem?_eq_getElem (by have := HLn.out; omega)]; rfl
    obtain ⟨t, ht⟩ : ∃ t, T.getD k [] = t := ⟨_, rfl⟩
    rw [ht] at HP8 hTk
    have HRS : Hid ((t == s) = rb) := Lib.hid (by rw [← HRB.out, hTk, Bool.eq_iff_iff]; simp)
    clear hkm hTk ht
    go_wp2_with fail
    refine wp_region_noPanic ?_
    refine Hd.start (fun v => v.cell? ⟨W6.heap.size, 0, none⟩ = some (.func (.func 49) #[] #[.pointer (some ⟨w.heap.size, 0, none⟩), .pointer (some ⟨W1.heap.size, 0, none⟩), .pointer (some ⟨W2.heap.size, 0, none⟩)]) ∧ v.cell? ⟨W3.heap.size, 0, none⟩ = some (.string ⟨s.toArray⟩)) (by kernel_rfl) (HS.out _ (below_drewN w8 1)) (fun hH0 => ?_)
    refine Hd.tk 0 11 hH0 ?_
    refine Hd.tk 1 3 hH0 ?_
    refine Hd.tk 2 3 hH0 ?_
    refine Hd.tk 3 4 hH0 ?_
    refine Hd.tk 4 5 hH0 ?_
    refine Hd.tk 5 7 hH0 ?_
    refine Hd.tk 6 7 hH0 ?_
    refine Hd.tk 8 9 hH0 ?_
    refine Hd.on 7 (fun K hK => ?_)
    go_simp
    refine HP8.out.mono ?_; rintro e w9 ⟨rfl, hb9⟩
    have HBA := Lib.hid ((below_drewN w8 1).trans (hb9.mono (below_drewN w8 1).size))
    clear hb9
    refine hK.out _ _ (HS.out _ HBA.out) (fun hH1 => ?_)
    clear hK K
    try simp only [Act.put, List.setIfInBounds_toArray, List.set_cons_zero, List.set_cons_succ]
    refine Hd.tk 9 10 hH1 ?_
    refine Hd.tk 10 12 hH1 ?_
    refine Hd.tk 11 12 hH1 ?_
    refine Hd.la 12 (fun K hK => ?_)
    go_simp
    refine hK.out _ _ ?_
    clear hK K
    try simp only [Act.put, List.setIfInBounds_toArray, List.set_cons_zero, List.set_cons_succ]
    simp only [NoPanic]
    go_wp2_with fail
    go_ret2
    exact ⟨ret2 rfl (show Value.bool (t == s) = .bool rb by rw [HRS.out]), HB8.out.trans (HBA.out.mono HB8.out.size)⟩
  · have g1 : decide ((k : Int) < (m : Int)) = false := by simp; omega
    have g2 : decide (k < m) = false := by simp; omega
    have hTk : T[k]? = none := List.getElem?_eq_none (by have := HLn.out; omega)
    have hrs : rb = false := by rw [← HRB.out, hTk]; rfl
    subst hrs
    clear hkm hTk
    go_wp2_with fail
    refine wp_region_noPanic ?_
    refine Hd.start (fun v => v.cell? ⟨W6.heap.size, 0, none⟩ = some (.func (.func 49) #[] #[.pointer (some ⟨w.heap.size, 0, none⟩), .pointer (some ⟨W1.heap.size, 0, none⟩), .pointer (some ⟨W2.heap.size, 0, none⟩)]) ∧ v.cell? ⟨W3.heap.size, 0, none⟩ = some (.string ⟨s.toArray⟩)) (by kernel_rfl) (HS.out _ (below_drewN w8 1)) (fun hH0 => ?_)
    refine Hd.tk 0 11 hH0 ?_
    refine Hd.tk 1 3 hH0 ?_
    refine Hd.tk 2 3 hH0 ?_
    refine Hd.tk 3 4 hH0 ?_
    refine Hd.tk 4 5 hH0 ?_
    refine Hd.sk 5 7 hH0 ?_
    refine Hd.sk 6 7 hH0 ?_
    refine Hd.sk 8 9 hH0 ?_
    refine Hd.sk 7 9 hH0 ?_
    refine Hd.sk 9 10 hH0 ?_
    refine Hd.tk 10 12 hH0 ?_
    refine Hd.tk 11 12 hH0 ?_
    refine Hd.la 12 (fun K hK => ?_)
    go_simp
    refine hK.out _ _ ?_
    clear hK K
    try simp only [Act.put, List.setIfInBounds_toArray, List.set_cons_zero, List.set_cons_succ]
    simp only [NoPanic]
    go_wp2_with fail
    go_ret2
    exact ⟨rfl, HB8.out.trans ((below_drewN w8 1).mono HB8.out.size)⟩
/-- What a search among a list's words finds: the word behind the text (n = 2), or the text's own (n = 1). -/
def seekL (l : List Ob) (L n : Nat) (T : List Bts) (s : Bts) : Nat := if T[spotL T s]? = some s then (getL l L ((n * spotL T s + (n - 1) : Nat) : Int)).1 else 0
set_option maxRecDepth 100000 in
set_option maxHeartbeats 1600000 in
theorem global_any (B : Bks) (N : Nat) (l : List Ob) (last root : Nat) (o : Ob) (T : List Bts) (s : Bts) (w : World) (hm : Mem B N l last w) (hx : root < 18446744073709551616) (ho : findO l (getL l root 3).1 = some o) (hT : Texts l (getL l root 3).1 2 o T) (hr : Rises T) :
    Calls Try.prog 9 #[.pointer (some ⟨B.h, 0, none⟩), .int .u64 (root : Int), .string ⟨s.toArray⟩] w (Back (.tuple #[uV (seekL l (getL l root 3).1 2 T s), .bool (decide (T[spotL T s]? = some s))]) w) := by
  have hL := get_lt hm.1 root 3
  have HS := Lib.hid (special_any B N l last root 3 w hm hx)
  have HP := Lib.hid (fun w hm => place_any B N l last (getL l root 3).1 2 o T s w hm hL ho (by omega) (by omega) hT hr)
  have HG := Lib.hid (fun w hm => get_any B N l last (getL l root 3).1 ((2 * spotL T s + 1 : Nat) : Int) w hm hL)
  have hspot := spot_le T s
  have hTl : T.length ≤ 1048576 := by
    have := hT.1
    have hok := hm.1.ok o (find_some' ho).1
    have hsz := ((okB_iff _).1 hok.hd).2.2.1
    omega
  unfold seekL
  obtain ⟨L, hLL⟩ : ∃ L, (getL l root 3).1 = L := ⟨_, rfl⟩
  rw [hLL] at HS HP HG ⊢
  obtain ⟨k, hk⟩ : ∃ k, spotL T s = k := ⟨_, rfl⟩
  rw [hk] at hspot HP HG ⊢
  have HM := Lib.hid hm
  have k1 : (k : Int) ≤ 1048576 := by omega
  have e1 : 2 * (k : Int) + 1 = ((2 * k + 1 : Nat) : Int) := by push_cast; rfl
  unfold uV at HS HG ⊢
  by_cases hc : T[k]? = some s
  · rw [if_pos hc, decide_eq_true hc]
    rw [decide_eq_true hc] at HP
    simp only [Nat.add_one_sub_one]
    obtain ⟨v, hv⟩ : ∃ v, (getL l L ((2 * k + 1 : Nat) : Int)).1 = v := ⟨_, rfl⟩
    obtain ⟨r, hrr⟩ : ∃ v, (getL l L ((2 * k + 1 : Nat) : Int)).2 = v := ⟨_, rfl⟩
    rw [hv, hrr] at HG
    rw [hv]
    obtain ⟨q, hq⟩ : ∃ q : Int, ((2 * k + 1 : Nat) : Int) = q := ⟨_, rfl⟩
    rw [hq] at HG e1
    clear hm hx ho hT hr hL hLL hk hc hv hrr hq hspot hTl
    go_enter Try.func9, Try.ntmps9
    go_wp2_with fail
    refine HS.out.mono ?_; rintro e w1 ⟨rfl, hb1⟩
    have HB1 := Lib.hid hb1
    clear hb1
    go_wp2_with fail
    refine (HP.out w1 (HM.out.bel HB1.out)).mono ?_; rintro e w2 ⟨rfl, hb2⟩
    have HB2 := Lib.hid (HB1.out.trans (hb2.mono HB1.out.size))
    clear hb2
    go_wp2_with fail
    refine (HG.out w2 (HM.out.bel HB2.out)).mono ?_; rintro e w3 ⟨rfl, hb3⟩
    have HB3 := Lib.hid (HB2.out.trans (hb3.mono HB2.out.size))
    clear hb3
    go_wp2_with fail
    go_ret2
    exact ⟨rfl, HB3.out⟩
  · rw [if_neg hc, decide_eq_false hc]
    rw [decide_eq_false hc] at HP
    clear hm hx ho hT hr hL hLL hk hc hspot hTl HG e1
    go_enter Try.func9, Try.ntmps9
    go_wp2_with fail
    refine HS.out.mono ?_; rintro e w1 ⟨rfl, hb1⟩
    have HB1 := Lib.hid hb1
    clear hb1
    go_wp2_with fail
    refine (HP.out w1 (HM.out.bel HB1.out)).mono ?_; rintro e w2 ⟨rfl, hb2⟩
    have HB2 := Lib.hid (HB1.out.trans (hb2.mono HB1.out.size))
    clear hb2
    go_wp2_with fail
    go_ret2
    exact ⟨rfl, HB2.out⟩
set_option maxRecDepth 100000 in
set_option maxHeartbeats 1600000 in
theorem ifind_any (B : Bks) (N : Nat) (l : List Ob) (last root : Nat) (o : Ob) (T : List Bts) (s : Bts) (w : World) (hm : Mem B N l last w) (hx : root < 18446744073709551616) (ho : findO l (getL l root 4).1 = some o) (hT : Texts l (getL l root 4).1 1 o T) (hr : Rises T) :
    Calls Try.prog 17 #[.pointer (some ⟨B.h, 0, none⟩), .int .u64 (root : Int), .string ⟨s.toArray⟩] w (Back (.tuple #[uV (seekL l (getL l root 4).1 1 T s), .bool (decide (T[spotL T s]? = some s))]) w) := by
  have hL := get_lt hm.1 root 4
  have HS := Lib.hid (special_any B N l last root 4 w hm hx)
  have HP := Lib.hid (fun w hm => place_any B N l last (getL l root 4).1 1 o T s w hm hL ho (by omega) (by omega) hT hr)
  have HG := Lib.hid (fun w hm => get_any B N l last (getL l root 4).1 ((spotL T s : Nat) : Int) w hm hL)
  unfold seekL
  obtain ⟨L, hLL⟩ : ∃ L, (getL l root 4).1 = L := ⟨_, rfl⟩
  rw [hLL] at HS HP HG ⊢
  obtain ⟨k, hk⟩ : ∃ k, spotL T s = k := ⟨_, rfl⟩
  rw [hk] at HP HG ⊢
  have HM := Lib.hid hm
  unfold uV at HS HG ⊢
  by_cases hc : T[k]? = some s
  · rw [if_pos hc, decide_eq_true hc]
    rw [decide_eq_true hc] at HP
    rw [show 1 * k + (1 - 1) = k by omega]
    obtain ⟨v, hv⟩ : ∃ v, (getL l L (k : Int)).1 = v := ⟨_, rfl⟩
    obtain ⟨r, hrr⟩ : ∃ v, (getL l L (k : Int)).2 = v := ⟨_, rfl⟩
    rw [hv, hrr] at HG
    rw [hv]
    clear hm hx ho hT hr hL hLL hk hc hv hrr
    go_enter Try.func17, Try.ntmps17
    go_wp2_with fail
    refine HS.out.mono ?_; rintro e w1 ⟨rfl, hb1⟩
    have HB1 := Lib.hid hb1
    clear hb1
    go_wp2_with fail
    refine (HP.out w1 (HM.out.bel HB1.out)).mono ?_; rintro e w2 ⟨rfl, hb2⟩
    have HB2 := Lib.hid (HB1.out.trans (hb2.mono HB1.out.size))
    clear hb2
    go_wp2_with fail
    refine (HG.out w2 (HM.out.bel HB2.out)).mono ?_; rintro e w3 ⟨rfl, hb3⟩
    have HB3 := Lib.hid (HB2.out.trans (hb3.mono HB2.out.size))
    clear hb3
    go_wp2_with fail
    go_ret2
    exact ⟨rfl, HB3.out⟩
  · rw [if_neg hc, decide_eq_false hc]
    rw [decide_eq_false hc] at HP
    clear hm hx ho hT hr hL hLL hk hc HG
    go_enter Try.func17, Try.ntmps17
    go_wp2_with fail
    refine HS.out.mono ?_; rintro e w1 ⟨rfl, hb1⟩
    have HB1 := Lib.hid hb1
    clear hb1
    go_wp2_with fail
    refine (HP.out w1 (HM.out.bel HB1.out)).mono ?_; rintro e w2 ⟨rfl, hb2⟩
    have HB2 := Lib.hid (HB1.out.trans (hb2.mono HB1.out.size))
    clear hb2
    go_wp2_with fail
    go_ret2
    exact ⟨rfl, HB2.out⟩
end Hp
end Go.Proofs.Ytojblndlchcjeaa
