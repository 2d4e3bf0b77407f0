/- Chapters 08 and 17, the walk: the reference's Words. -/
import Derived.Test.YtojblndlchcjeaaHpRe2
import Derived.Test.YtojblndlchcjeaaHpApp
import Derived.Test.YtojblndlchcjeaaHpW9
set_option linter.unusedVariables false
namespace Go.Proofs.Ytojblndlchcjeaa
open Go.RowKit
namespace Hp
open Bs Sm
theorem hiW_lt (b : List UInt8) (j : Nat) (hj : 1 ≤ j) : hiW b j ≤ 72057594037927935 := by
  have h : ∀ (n : Nat) (l : List UInt8), l.length ≤ n → l.foldr (fun c acc => c.toNat + 256 * acc) 0 < 256 ^ n := by
    intro n
    induction n with
    | zero => intro l hl; have : l = [] := List.eq_nil_of_length_eq_zero (by omega); subst this; simp
    | succ n ih =>
      intro l hl
      cases l with
      | nil => exact Nat.pow_pos (by omega)
      | cons c l =>
        have := ih l (by simpa using hl)
        have hc := c.toNat_lt
        rw [List.foldr_cons, Nat.pow_succ]
        omega
  have := h 7 ((b.take 8).drop j) (by rw [List.length_drop, List.length_take]; omega)
  unfold hiW
  have e : (256 : Nat) ^ 7 = 72057594037927936 := rfl
  omega
theorem packB_snoc : ∀ (n : Nat) (b : List UInt8), packB (n + 1) b = packB n b ++ [w8 (b.drop (8 * n))]
  | 0, b => by simp [packB]
  | n + 1, b => by
    show w8 b :: packB (n + 1) (b.drop 8) = w8 b :: packB n (b.drop 8) ++ [_]
    rw [packB_snoc n, List.drop_drop, show 8 + 8 * n = 8 * (n + 1) by omega]; rfl
/-- All words of an object behind its head. -/
theorem body_all {o : Ob} (h : OkO o) : bodyW o = o.words ++ packB ((o.bytes.length + 7) / 8) o.bytes := by
  unfold bodyW
  by_cases hk : o.hd.kind = 2
  · obtain ⟨h1, h2⟩ := h.bytes hk
    rw [if_pos hk, h1, h2]; rfl
  · obtain ⟨h1, h2, -⟩ := h.words hk
    rw [if_neg hk, h2]; simp [packB]
theorem heapW_take {l : List Ob} {k : Nat} {o : Ob} (h : l[k]? = some o) : heapW (l.take (k + 1)) = heapW (l.take k) ++ obW o := by
  obtain ⟨h1, h2⟩ := List.getElem?_eq_some_iff.1 h
  rw [List.take_succ_eq_append_getElem h1, h2, ← alloc_heapW]
/-- A row of words of one's own. -/
def OwnU (B : Nat) (w : World) (v : Value) (L : List Nat) : Prop := w.ownsRow B UT 1 v L.length (L.map uV)
theorem uV_one (x : Nat) : (uV x).oneCell' = true := rfl
theorem app_u {S : Nat → Prop} {w : World} {B : Nat} {v xv : Value} {L M : List Nat} (h : OwnU B w v L) (hr : Rd S uV w xv M) (hn : L.length + M.length ≤ 100000000) (hB : B ≤ w.heap.size) :
    ∃ v' w', (Builtin.append_ #[34, 34] 34 #[v, xv]).run Try.prog w = .ok v' w' ∧ OwnU B w' v' (L ++ M) ∧ w.grownBy w' v.ownBlock := by
  obtain ⟨i0, hi0, hz0, hz1, hz2⟩ := ut_info
  obtain ⟨v', w', r1, r2, r3⟩ := run_rd (P := Try.prog) uV_one 34 34 UT (by kernel_rfl) i0 (.int .u64 0) 8 hi0 hz0 hz1 hz2 rfl h hr (by unfold maxLen; omega) (by omega) hB
  refine ⟨v', w', r1, ?_, r3⟩
  unfold OwnU
  rw [List.length_append, List.map_append]
  exact r2
theorem OwnU.form {B : Nat} {w : World} {v : Value} {L : List Nat} (h : OwnU B w v L) : ∃ a c, v = .slice a L.length c := by
  obtain ⟨a, c, e, -⟩ := own_slice h
  exact ⟨a, c, e⟩
theorem OwnU.bel {B : Nat} {w w' : World} {v : Value} {L : List Nat} (h : OwnU B w v L) (hb : Below w.heap.size w w') : OwnU B w' v L := own_below h hb
theorem OwnU.lt {B : Nat} {w : World} {v : Value} {L : List Nat} (h : OwnU B w v L) : ∀ k, v.ownBlock = some k → B ≤ k := fun k hk => (World.ownsRow.lt h k hk).1
set_option maxRecDepth 100000 in
set_option maxHeartbeats 6400000 in
theorem rwords_any (S : Nat → Prop) (N last : Nat) (lv : Value) (l : List Ob) (w : World) (hl : Obs S w lv l) (hok : ∀ o ∈ l, OkO o) (hE : endL 2 l ≤ 16777216) :
    Calls Try.prog 47 #[rhV N lv last] w (fun e w' => ∃ v, e = .returned v ∧ OwnU w.heap.size w' v (heapW l) ∧ Below w.heap.size w w') := by
  have hO := hl
  obtain ⟨a, cap, rfl, hc1, hc2⟩ := hl.form
  obtain ⟨n, hn⟩ : ∃ n, l.length = n := ⟨_, rfl⟩
  have HN := Lib.hid hn
  unfold maxLen at hc2
  rw [hn] at hc1 hO ⊢
  have hm : n ≤ 9223372036854775807 := by omega
  have hmN : (n : Int) ≤ 16777216 := by
    have := len_end l 2
    omega
  obtain ⟨W1, hal1⟩ : ∃ W1, w.alloc (.cells #[.int .i64 (N : Int), .slice a n cap, .int .u32 (last : Int)] RHT) = W1 := ⟨_, rfl⟩
  have b1 : Below w.heap.size w W1 := by rw [← hal1]; exact alloc_bel _ _
  have qA : Blk RHT w.heap.size #[.int .i64 (N : Int), .slice a n cap, .int .u32 (last : Int)] W1 := by rw [← hal1]; exact Blk.made _
  have HB := Lib.hid b1
  have QA := Lib.hid qA
  have HO := Lib.hid (show Obs S w (.slice a n cap) l from hO)
  have HK := Lib.hid hok
  have HE := Lib.hid (show (heapW l).length + 2 ≤ 16777216 by have := heapW_len l 2 hok; omega)
  unfold rhV
  clear hO hl qA b1 hn hc1 hc2 hok hE
  go_enter Try.func47, Try.ntmps47
  go_wp2_with fail
  go_loopw [3, 4] (fun x y wr => ∃ k : Nat, y = .int .i64 (k : Int) ∧ k ≤ n ∧ Hid (Below w.heap.size w wr ∧ Blk RHT w.heap.size #[.int .i64 (N : Int), .slice a n cap, .int .u32 (last : Int)] wr ∧ OwnU w.heap.size wr x (heapW (l.take k)))) (fun _ y _ => n - (intOf y).toNat)
  case atStart => exact ⟨0, rfl, Nat.zero_le _, Lib.hid ⟨HB.out, QA.out, World.ownsRow_nil _ _ _ _⟩⟩
  case round =>
    obtain ⟨k, rfl, hk, hI⟩ := hrel
    have c1 := hI.out.2.1.c 1 _ rfl
    by_cases hkn : k < n
    · have hd : decide ((k : Int) < (n : Int)) = true := by simpa using hkn
      have hd2 : (k : Int) < (n : Int) := by omega
      obtain ⟨b, off, o, wv, bv, rfl, ho, -, hbl, hrow0, hrw0, hrb0⟩ := HO.out.nth k hkn
      have hrow := hrow0.kp (fun i => hI.out.1.cell (p := ⟨b, i, none⟩) hbl)
      have hrw : Rd (fun b => b < w.heap.size) uV w wv o.words := hrw0.mono (fun _ _ h => h)
      have hrb : Rd (fun b => b < w.heap.size) byV w bv o.bytes := hrb0.mono (fun _ _ h => h)
      clear hrow0 hrw0 hrb0
      have hoo := HK.out o (List.mem_of_getElem? ho)
      have HP := Lib.hid (fun w => rpack_ok o.hd hoo.hd w)
      have HT := Lib.hid (heapW_take ho)
      have HBA := Lib.hid (body_all hoo)
      have hlen2 : (heapW (l.take k)).length + 2 + o.words.length + (o.bytes.length + 7) / 8 ≤ 16777216 := by
        have h1 := HE.out
        have h2 : (heapW (l.take (k + 1))).length ≤ (heapW l).length := by
          have : heapW l = heapW (l.take (k + 1)) ++ heapW (l.drop (k + 1)) := by
            unfold heapW; rw [← List.flatMap_append, List.take_append_drop]
          rw [this, List.length_append]; omega
        rw [HT.out, List.length_append] at h2
        unfold obW at h2
        rw [List.length_cons, List.length_cons, HBA.out, List.length_append, packB_len] at h2
        omega
      obtain ⟨wa, wc, rfl, -, -⟩ := hrw.form
      obtain ⟨ba, bc, rfl, -, -⟩ := hrb.form
      have HRW := Lib.hid hrw
      have HRB := Lib.hid hrb
      unfold ORow at hrow
      unfold obW at HT
      obtain ⟨I, hII⟩ : ∃ I, infoL o.hd = I := ⟨_, rfl⟩
      rw [hII] at HT HP
      obtain ⟨⟨at_, ⟨hcc, ks, kz, kx, km⟩, ows, obs⟩, rfl⟩ : ∃ o', o = o' := ⟨_, rfl⟩
      dsimp only at hrow HP HRW HRB HBA hlen2
      have HT2 : Hid (heapW (l.take (k + 1)) = heapW (l.take k) ++ hcc :: I :: (ows ++ packB ((obs.length + 7) / 8) obs)) := Lib.hid (by rw [HT.out]; dsimp only; rw [HBA.out])
      obtain ⟨r0, r1, r2, r3, r4, r5, r6, r7⟩ := hrow
      unfold hdV uV at HP
      dsimp only at HP
      have HLN := Lib.hid hlen2
      obtain ⟨wn, hwn⟩ : ∃ n, ows.length = n := ⟨_, rfl⟩
      obtain ⟨bn, hbn⟩ : ∃ n, obs.length = n := ⟨_, rfl⟩
      have HWN := Lib.hid hwn
      have HBN := Lib.hid hbn
      rw [hwn] at HRW r6
      rw [hbn] at HRB HT2 r7
      obtain ⟨W2, hal2⟩ : ∃ W2, wr.alloc (.cells #[.int .i64 (at_ : Int), .int .u64 (hcc : Int), .int .i64 (ks : Int), .int .i64 (kz : Int), .int .u32 (kx : Int), .bool km, .slice wa wn wc, .slice ba bn bc] OT) = W2 := ⟨_, rfl⟩
      have b2 : Below wr.heap.size wr W2 := by rw [← hal2]; exact alloc_bel _ _
      have qB : Blk OT wr.heap.size #[.int .i64 (at_ : Int), .int .u64 (hcc : Int), .int .i64 (ks : Int), .int .i64 (kz : Int), .int .u32 (kx : Int), .bool km, .slice wa wn wc, .slice ba bn bc] W2 := by rw [← hal2]; exact Blk.made _
      have e1 := qB.c 1 _ rfl
      have e2 := qB.c 2 _ rfl
      have e3 := qB.c 3 _ rfl
      have e4 := qB.c 4 _ rfl
      have e5 := qB.c 5 _ rfl
      have HB2 := Lib.hid b2
      have QB := Lib.hid qB
      clear hrw hrb hoo HT HBA hII hlen2 hwn hbn b2 qB ho
      obtain ⟨oa, oc, rfl⟩ := hI.out.2.2.form
      obtain ⟨hL, hhL⟩ : ∃ L, heapW (l.take k) = L := ⟨_, rfl⟩
      rw [hhL] at hI HLN HT2
      obtain ⟨hn, hhn⟩ : ∃ n, hL.length = n := ⟨_, rfl⟩
      have HHN := Lib.hid hhn
      have HI : Hid (Below w.heap.size w wr ∧ Blk RHT w.heap.size #[.int .i64 (N : Int), .slice (some ⟨b, off, none⟩) n cap, .int .u32 (last : Int)] wr ∧ OwnU w.heap.size wr (.slice oa hn oc) hL) := Lib.hid (by rw [← hhn]; exact hI.out)
      rw [hhL, hhn]
      clear hI hhn hhL
      go_wp2_with fail
      refine (HP.out _).mono ?_; rintro e w3 ⟨rfl, hb3⟩
      obtain ⟨W4, hal4⟩ : ∃ W4, w3.alloc (.cells #[.int .u64 (hcc : Int), .int .u64 (I : Int)] AU2) = W4 := ⟨_, rfl⟩
      have b4 : Below w3.heap.size w3 W4 := by rw [← hal4]; exact alloc_bel _ _
      have qC : Blk AU2 w3.heap.size #[.int .u64 (hcc : Int), .int .u64 (I : Int)] W4 := by rw [← hal4]; exact Blk.made _
      obtain ⟨W5, hal5⟩ : ∃ W5, W4.alloc (.cells #[.int .u64 (hcc : Int), .int .u64 (I : Int)] UT) = W5 := ⟨_, rfl⟩
      have b5 : Below W4.heap.size W4 W5 := by rw [← hal5]; exact alloc_bel _ _
      have qD : Blk UT W4.heap.size (rowV uV [hcc, I]) W5 := by rw [← hal5]; exact Blk.made _
      have b25 : Below W2.heap.size W2 W5 := (hb3.trans (b4.mono hb3.size)).trans (b5.mono (Nat.le_trans hb3.size b4.size))
      have br5 : Below wr.heap.size wr W5 := HB2.out.trans (b25.mono HB2.out.size)
      have hO5 := HI.out.2.2.bel br5
      have qB5 := QB.out.below b25 QB.out.lt
      have bw5 : Below w.heap.size w W5 := HI.out.1.trans (br5.mono HI.out.1.size)
      obtain ⟨v6, w6, hrun6, hO6, hg6⟩ := app_u (xv := .slice (some ⟨W4.heap.size, 0, none⟩) 2 2) hO5 (Rd.blk qD (by unfold maxLen; simp)) (by have := HLN.out; simp; omega) bw5.size
      obtain ⟨a6, c6, rfl⟩ := hO6.form
      have e0 := qC.c 0 _ rfl
      have e0' := qC.c 1 _ rfl
      have bw6 : Below w.heap.size w w6 := bw5.grown hg6 bw5.size hO5.lt
      have qB6 := blk_grown qB5 hg6 hO5 (show UT ≠ OT by decide)
      have qR6 := blk_grown (HI.out.2.1.below br5 HI.out.2.1.lt) hg6 hO5 (show UT ≠ RHT by decide)
      obtain ⟨v7, w7, hrun7, hO7, hg7⟩ := app_u hO6 (HRW.out.kp (Kp.lt bw6)) (by have := HLN.out; have := HWN.out; rw [List.length_append]; simp only [List.length_cons, List.length_nil]; omega) bw6.size
      obtain ⟨a7, c7, rfl⟩ := hO7.form
      have bw7 : Below w.heap.size w w7 := bw6.grown hg7 bw6.size hO6.lt
      have qB7 := blk_grown qB6 hg7 hO6 (show UT ≠ OT by decide)
      have qR7 := blk_grown qR6 hg7 hO6 (show UT ≠ RHT by decide)
      have hL6 : (hL ++ [hcc, I]).length = hn + 2 := by rw [List.length_append, HHN.out]; rfl
      have hL7 : (hL ++ [hcc, I] ++ ows).length = hn + 2 + wn := by rw [List.length_append, hL6, HWN.out]
      have hO6' := hO6
      rw [hL6] at hrun6 hrun7
      rw [hL7] at hrun7
      have HO7 : Hid (OwnU w.heap.size w7 (.slice a7 (hn + 2 + wn) c7) (hL ++ [hcc, I] ++ ows)) := Lib.hid (by rw [← hL7]; exact hO7)
      have HBW7 := Lib.hid bw7
      have QB7 := Lib.hid qB7
      have QR7 := Lib.hid qR7
      have e7 := qB6.c 6 _ rfl
      have e8 := qB7.c 7 _ rfl
      clear hb3 b4 qC b5 qD b25 br5 hO5 qB5 bw5 hO6 hO6' hg6 bw6 qB6 qR6 hO7 hg7 bw7 qB7 qR7 hL6 hL7
      have HR6 := Lib.hid hrun6
      have HR7 := Lib.hid hrun7
      clear hrun6 hrun7
      go_wp2_with (at_builtin; first | refine wpList_app rfl _ _ _ rfl _ _ _ _ rfl rfl HR6.out ?_ | refine wpList_app rfl _ _ _ rfl _ _ _ _ rfl rfl HR7.out ?_)
      obtain ⟨wO, rfl⟩ : ∃ wO : World, wO = wr := ⟨_, rfl⟩
      obtain ⟨nb, hnb⟩ : ∃ nb, (bn + 7) / 8 = nb := ⟨_, rfl⟩
      have HNB := Lib.hid hnb
      have hbn1 : bn ≤ 8 * nb := by omega
      have hbn2 : 8 * nb ≤ bn + 7 := by omega
      have hnb2 : hn + 2 + wn + nb ≤ 16777216 := by have := HLN.out; have := HHN.out; have := HWN.out; have := HBN.out; omega
      clear hnb
      go_loopw [3, 8] (fun x y wi => ∃ t : Nat, y = .int .i64 ((8 * t : Nat) : Int) ∧ t ≤ nb ∧ Hid (Below w.heap.size w wi ∧ Blk RHT w.heap.size #[.int .i64 (N : Int), .slice (some ⟨b, off, none⟩) n cap, .int .u32 (last : Int)] wi ∧ Blk OT wO.heap.size #[.int .i64 (at_ : Int), .int .u64 (hcc : Int), .int .i64 (ks : Int), .int .i64 (kz : Int), .int .u32 (kx : Int), .bool km, .slice wa wn wc, .slice ba bn bc] wi ∧ OwnU w.heap.size wi x (hL ++ [hcc, I] ++ ows ++ packB t obs))) (fun _ y _ => 8 * nb + 8 - (intOf y).toNat)
      case atStart => exact ⟨0, rfl, Nat.zero_le _, Lib.hid ⟨HBW7.out, QR7.out, QB7.out, by simp only [packB, List.append_nil]; have := HO7.out; exact this⟩⟩
      case round =>
        obtain ⟨t, rfl, ht, hJ⟩ := hrel
        obtain ⟨ia, ic, rfl⟩ := hJ.out.2.2.2.form
        have hLen : (hL ++ [hcc, I] ++ ows ++ packB t obs).length = hn + 2 + wn + t := by
          rw [List.length_append, List.length_append, List.length_append, packB_len, HHN.out, HWN.out]; rfl
        have HLen := Lib.hid hLen
        have HJ : Hid (Below w.heap.size w wr ∧ Blk RHT w.heap.size #[.int .i64 (N : Int), .slice (some ⟨b, off, none⟩) n cap, .int .u32 (last : Int)] wr ∧ Blk OT wO.heap.size #[.int .i64 (at_ : Int), .int .u64 (hcc : Int), .int .i64 (ks : Int), .int .i64 (kz : Int), .int .u32 (kx : Int), .bool km, .slice wa wn wc, .slice ba bn bc] wr ∧ OwnU w.heap.size wr (.slice ia (hn + 2 + wn + t) ic) (hL ++ [hcc, I] ++ ows ++ packB t obs)) := Lib.hid (by rw [← hLen]; exact hJ.out)
        rw [hLen]
        clear hJ hLen
        have e8 := HJ.out.2.2.1.c 7 _ rfl
        have hbn8 : (bn : Int) ≤ 200000000 := by omega
        by_cases htn : t < nb
        · have d1 : decide (((8 * t : Nat) : Int) < (bn : Int)) = true := decide_eq_true (by omega)
          have d1' : decide (8 * t < bn) = true := decide_eq_true (by omega)
          have d1'' : decide (8 * (t : Int) < (bn : Int)) = true := decide_eq_true (by omega)
          obtain ⟨bb, bo, hx0, rfl, -, -, -⟩ := HRB.out.at_ (8 * t) (by omega)
          have ht8 : (t : Int) ≤ 16777216 := by omega
          go_wp2_with fail
          go_loop [9, 10] (fun x y => ∃ j : Nat, x = .int .u64 ((hiW (obs.drop (8 * t)) j : Nat) : Int) ∧ y = .int .i64 ((j : Int) - 1) ∧ j ≤ 8) (fun _ y => (intOf y + 1).toNat)
          case atStart => exact ⟨8, by rw [hiW_end]; rfl, by simp, Nat.le_refl _⟩
          case round =>
            obtain ⟨j, rfl, rfl, hj⟩ := hrel
            cases j with
            | zero =>
              rw [hiW_zero]
              have HPS := Lib.hid (packB_snoc t obs)
              obtain ⟨u, hu⟩ : ∃ u, w8 (obs.drop (8 * t)) = u := ⟨_, rfl⟩
              rw [hu] at HPS ⊢
              obtain ⟨W9, hal9⟩ : ∃ W9, wr.alloc (.cells #[.int .u64 (u : Int)] UT) = W9 := ⟨_, rfl⟩
              have b9 : Below wr.heap.size wr W9 := by rw [← hal9]; exact alloc_bel _ _
              have qE : Blk UT wr.heap.size (rowV uV [u]) W9 := by rw [← hal9]; exact Blk.made _
              have bw9 := HJ.out.1.trans (b9.mono HJ.out.1.size)
              have hO9 := HJ.out.2.2.2.bel b9
              obtain ⟨vA, wA, hrunA, hOA, hgA⟩ := app_u (xv := .slice (some ⟨wr.heap.size, 0, none⟩) 1 1) hO9 (Rd.blk qE (by unfold maxLen; simp)) (by rw [HLen.out]; simp; omega) bw9.size
              have HRA := Lib.hid hrunA
              have HE2 : Hid (Below w.heap.size w wA ∧ Blk RHT w.heap.size #[.int .i64 (N : Int), .slice (some ⟨b, off, none⟩) n cap, .int .u32 (last : Int)] wA ∧ Blk OT wO.heap.size #[.int .i64 (at_ : Int), .int .u64 (hcc : Int), .int .i64 (ks : Int), .int .i64 (kz : Int), .int .u32 (kx : Int), .bool km, .slice wa wn wc, .slice (some ⟨bb, bo, none⟩) bn bc] wA ∧ OwnU w.heap.size wA vA (hL ++ [hcc, I] ++ ows ++ packB (t + 1) obs)) :=
                Lib.hid ⟨bw9.grown hgA bw9.size hO9.lt, blk_grown (HJ.out.2.1.below b9 HJ.out.2.1.lt) hgA hO9 (show UT ≠ RHT by decide), blk_grown (HJ.out.2.2.1.below b9 HJ.out.2.2.1.lt) hgA hO9 (show UT ≠ OT by decide), by rw [HPS.out, ← List.append_assoc]; exact hOA⟩
              clear b9 qE bw9 hO9 hrunA hOA hgA hu
              go_wp2_with (at_builtin; refine wpList_app rfl _ _ _ rfl _ _ _ _ rfl rfl HRA.out ?_)
              exact ⟨⟨t + 1, vint (by omega), by omega, HE2⟩, by simp only [intOf]; omega⟩
            | succ j =>
              have d2 : ((j + 1 : Nat) : Int) - 1 = (j : Int) := by omega
              rw [d2]
              have hst := hiW_step (obs.drop (8 * t)) j (by omega)
              have hlt := hiW_lt (obs.drop (8 * t)) (j + 1) (by omega)
              rw [List.getElem?_drop] at hst
              obtain ⟨X, hX⟩ : ∃ X, hiW (obs.drop (8 * t)) (j + 1) = X := ⟨_, rfl⟩
              obtain ⟨Z, hZ⟩ : ∃ Z, hiW (obs.drop (8 * t)) j = Z := ⟨_, rfl⟩
              have HZ := Lib.hid hZ
              rw [hX, hZ] at hst
              rw [hX] at hlt ⊢
              obtain ⟨Y, hY⟩ : ∃ Y, 256 * X = Y := ⟨_, rfl⟩
              rw [hY] at hst
              have hw1 : IntKind.u64.wrap ((X : Int) * 256) = (Y : Int) := by rw [wrap_u64_eq]; omega
              have hj8 : (j : Int) ≤ 8 := by omega
              by_cases hin : 8 * t + j < bn
              · have d3 : decide (8 * (t : Int) + (j : Int) < (bn : Int)) = true := decide_eq_true (by omega)
                have d3' : decide (8 * t + j < bn) = true := decide_eq_true (by omega)
                have d3'' : (((8 * t : Nat) : Int) + (j : Int)) < (bn : Int) := by omega
                obtain ⟨bb', bo', c, e1, hc, hcb, hcell⟩ := HRB.out.at_ (8 * t + j) hin
                cases e1
                rw [hc] at hst
                have hcw := (HJ.out.1.cell (p := ⟨bb, bo + (8 * t + j), none⟩) hcb).trans hcell
                unfold byV at hcw
                have hc256 := c.toNat_lt
                have hw3 : IntKind.u64.wrap (c.toNat : Int) = (c.toNat : Int) := by rw [wrap_u64_eq]; omega
                have hw2 : IntKind.u64.wrap ((Y : Int) + (c.toNat : Int)) = (Z : Int) := by rw [hst, wrap_u64_eq]; simp only [Option.map_some, Option.getD_some]; omega
                clear hst hlt hX hZ hY d2 hc hcell
                go_wp2_with fail
                exact ⟨⟨j, by rw [HZ.out], rfl, by omega⟩, by simp only [intOf]; omega⟩
              · have d3 : decide (8 * (t : Int) + (j : Int) < (bn : Int)) = false := decide_eq_false (by omega)
                have d3' : decide (8 * t + j < bn) = false := decide_eq_false (by omega)
                have hnone : obs[8 * t + j]? = none := List.getElem?_eq_none (by rw [HBN.out]; omega)
                rw [hnone] at hst
                have hZY : Z = Y := by rw [hst]; rfl
                clear hst hlt hX hZ hY d2 hnone
                go_wp2_with fail
                exact ⟨⟨j, by rw [HZ.out, hZY], rfl, by omega⟩, by simp only [intOf]; omega⟩
        · obtain rfl : t = nb := by omega
          have d1 : decide (((8 * t : Nat) : Int) < (bn : Int)) = false := decide_eq_false (by omega)
          have d1' : decide (8 * t < bn) = false := decide_eq_false (by omega)
          have d1'' : decide (8 * (t : Int) < (bn : Int)) = false := decide_eq_false (by omega)
          have HE2 : Hid (Below w.heap.size w wr ∧ Blk RHT w.heap.size #[.int .i64 (N : Int), .slice (some ⟨b, off, none⟩) n cap, .int .u32 (last : Int)] wr ∧ OwnU w.heap.size wr (.slice ia (hn + 2 + wn + t) ic) (heapW (l.take (k + 1)))) := Lib.hid ⟨HJ.out.1, HJ.out.2.1, by
            have := HJ.out.2.2.2
            rw [HT2.out, HNB.out]
            simpa [List.append_assoc] using this⟩
          go_wp2_with fail
          exact ⟨⟨k + 1, by simp, by omega, HE2⟩, by simp only [intOf]; omega⟩
    · obtain rfl : k = n := by omega
      have hd : decide ((k : Int) < (k : Int)) = false := by simp
      have HR := hI
      clear hI
      go_wp2_with fail
      go_ret
      refine ⟨_, rfl, ?_, HR.out.1⟩
      have := HR.out.2.2
      rw [List.take_of_length_le (by rw [HN.out]; exact Nat.le_refl _)] at this
      exact this
end Hp
end Go.Proofs.Ytojblndlchcjeaa
