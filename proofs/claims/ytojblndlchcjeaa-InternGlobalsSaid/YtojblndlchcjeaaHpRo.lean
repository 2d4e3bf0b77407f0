/- Chapter 17, the walk: InternGlobals. -/
import Derived.Test.YtojblndlchcjeaaHpAd
import Derived.Test.YtojblndlchcjeaaHpRl
set_option linter.unusedVariables false
namespace Go.Proofs.Ytojblndlchcjeaa
open Go.RowKit
namespace Hp
open Bs Sm
theorem strV_one (x : Bts) : (strV x).oneCell' = true := rfl
/-- What both sides make of a name. -/
def shL (s : Bts) : Bts := if 200 < s.length then s.take 200 else s
theorem sh_short (s : Bts) : shortB ⟨s.toArray⟩ 200 = ⟨(shL s).toArray⟩ := by
  unfold shortB shL
  have hs : (⟨s.toArray⟩ : ByteArray).size = s.length := by simp [ByteArray.size]
  rw [hs]
  by_cases h : 200 < s.length
  · rw [if_pos h, if_pos h]
    apply ByteArray.ext
    rw [ByteArray.data_extract]
    simp
  · rw [if_neg h, if_neg h]
theorem kern_short : ∀ i, i < 16 → shL (kernelL.getD i []) = kernelL.getD i [] := by
  have h : ∀ i : Fin 16, shL (kernelL.getD i.val []) = kernelL.getD i.val [] := by decide
  exact fun i hi => h ⟨i, hi⟩
theorem idx_of {l : List Ob} {x : Nat} {o : Ob} (h : findO l x = some o) : ∃ k, idxO l x = some k ∧ l[k]? = some o := by
  cases hi : idxO l x with
  | none => rw [idx_none hi] at h; cases h
  | some k =>
    obtain ⟨o', h1, -, h3⟩ := idx_some hi
    rw [h] at h3
    cases h3
    exact ⟨k, rfl, h1⟩
theorem find_lt {N last x : Nat} {l : List Ob} {o : Ob} (hf : Fine N l last) (h : findO l x = some o) : x < 18446744073709551616 := by
  obtain ⟨hm, hw⟩ := find_some h
  obtain ⟨i, hi⟩ := List.getElem?_of_mem hm
  have := place_lt hf hi
  have := hf.hi
  omega
theorem at_le {N last : Nat} {l : List Ob} (hf : Fine N l last) : ∀ o ∈ l, o.at_ ≤ 16777216 := fun o ho => by
  obtain ⟨i, hi⟩ := List.getElem?_of_mem ho
  have := place_lt hf hi
  have := hf.hi
  omega
/-- Both searches in a town. -/
theorem both_glob (B : Bks) (N : Nat) (n : Nat) (hn : n ≤ 6) (sup flds : List Int) (s : Bts) (w : World) (hm : Mem B N (layL n sup flds) 0 w) :
    Calls Try.prog 9 #[.pointer (some ⟨B.h, 0, none⟩), .int .u64 4, .string ⟨s.toArray⟩] w (Back (.tuple #[.int .u64 (globR n s : Int), .bool (decide (globR n s ≠ 0))]) w) := by
  have hg := get_root (sup := sup) (flds := flds) hn 3 (by omega)
  have h3 : (rootW n).getD 3 0 = 2 * globAt n := rfl
  rw [h3] at hg
  have hgi : getL (layL n sup flds) 4 3 = (2 * globAt n, 0) := hg
  have := global_any B N (layL n sup flds) 0 4 _ (globT n) s w hm (by omega) (by rw [hgi]; exact find_glob hn) (by rw [hgi]; exact glob_texts hn) (glob_rise n hn)
  rw [hgi] at this
  dsimp only at this
  rw [seek_glob hn] at this
  have hd : decide ((globT n)[spotL (globT n) s]? = some s) = decide (globR n s ≠ 0) := by
    by_cases h : (globT n)[spotL (globT n) s]? = some s
    · rw [decide_eq_true h, decide_eq_true (glob_some h)]
    · rw [decide_eq_false h, decide_eq_false (by unfold globR; rw [if_neg h]; simp)]
  rw [hd] at this
  exact this
theorem ref_globs (S : Nat → Prop) (N last : Nat) (n : Nat) (hn : n ≤ 6) (sup flds : List Int) (s : Bts) (lv : Value) (ra : Option Addr) (rc : Nat) (w : World) (hf : Fine N (layL n sup flds) last) (hl : Obs S w lv (layL n sup flds)) (hr : Rd S uV w (.slice ra 24 rc) (rootW n)) :
    Calls Try.prog 11 #[lkV N lv last (.slice ra 24 rc), .string ⟨s.toArray⟩] w (Back (.int .u64 (globR n s : Int)) w) := by
  have hfg := find_glob (sup := sup) (flds := flds) hn
  obtain ⟨kg, hk, ho⟩ := idx_of hfg
  have hsz : ((orderL n).flatMap (fun i => [2 * symAt n i, 2 * clsAt i])).length ≤ 16777216 := by
    have := (hf.ok _ (find_some hfg).1).words (show ¬ (1 = 2) by decide)
    have h2 := ((okB_iff _).1 (hf.ok _ (find_some hfg).1).hd).2.2.1
    have h3 := this.1
    have h4 : (listO (globAt n) ((orderL n).flatMap (fun i => [2 * symAt n i, 2 * clsAt i]))).words = (orderL n).flatMap (fun i => [2 * symAt n i, 2 * clsAt i]) := rfl
    rw [h4] at h3
    omega
  have := rglob_any S N last kg 24 rc (2 * globAt n) symC ra lv s (rootW n) (layL n sup flds) _ w hl (at_le hf) hr rfl rfl (find_lt hf hfg) hk ho hsz (fun i x hx => by
    have hio : i < (orderL n).length := by
      have h1 := (List.getElem?_eq_some_iff.1 hx).1
      have h2 : ((orderL n).flatMap (fun i => [2 * symAt n i, 2 * clsAt i])).length = 2 * (orderL n).length := by
        generalize orderL n = is
        induction is with
        | nil => rfl
        | cons i is ih => rw [List.flatMap_cons, List.length_append, ih, List.length_cons]; simp; omega
      have h3 : 2 * i < ((orderL n).flatMap (fun i => [2 * symAt n i, 2 * clsAt i])).length := h1
      omega
    have hp := (pairs_at (fun i => 2 * symAt n i) (fun i => 2 * clsAt i) (orderL n) i hio).1
    have hx2 : ((orderL n).flatMap (fun i => [2 * symAt n i, 2 * clsAt i]))[2 * i]? = some x := hx
    rw [hp] at hx2
    cases hx2
    have hlt : (orderL n).getD i 0 < NN n := order_lt n hn _ (by rw [List.getD_eq_getElem?_getD, List.getElem?_eq_getElem hio]; exact List.getElem_mem hio)
    have hfs := find_sym (sup := sup) (flds := flds) hn hlt
    obtain ⟨k, h1, h2⟩ := idx_of hfs
    exact ⟨find_lt hf hfs, k, _, h1, h2⟩)
  have e : refG (layL n sup flds) s (listO (globAt n) ((orderL n).flatMap (fun i => [2 * symAt n i, 2 * clsAt i]))).words = globR n s := ref_glob n hn sup flds s
  rw [e] at this
  exact this
theorem app_rs {S : Nat → Prop} {w : World} {B : Nat} {v xv : Value} {L M : List Bts} (h : OwnS B w v L) (hr : Rd S strV w xv M) (hn : (L.length + M.length) * 16 ≤ 140737488355328) (hB : B ≤ w.heap.size) :
    ∃ v' w', (Builtin.append_ #[25, 25] 25 #[v, xv]).run Try.prog w = .ok v' w' ∧ OwnS B w' v' (L ++ M) ∧ w.grownBy w' v.ownBlock := by
  obtain ⟨i0, hi0, hz0, hz1, hz2⟩ := st_info
  obtain ⟨v', w', r1, r2, r3⟩ := run_rd (P := Try.prog) strV_one 25 25 ST1 (by kernel_rfl) i0 (.string ⟨#[]⟩) 16 hi0 hz0 hz1 hz2 rfl h hr (by unfold maxLen; omega) hn hB
  refine ⟨v', w', r1, ?_, r3⟩
  unfold OwnS
  rw [List.length_append, List.map_append]
  exact r2
set_option maxRecDepth 100000 in
set_option maxHeartbeats 3200000 in
theorem globals_walk (sup flds : List Int) (names : List Bts) (sv fv nv : Value) (w : World) (hsv : Rd (fun b => b < w.heap.size) iV w sv sup) (hfv : Rd (fun b => b < w.heap.size) iV w fv flds) (hnv : Rd (fun b => b < w.heap.size) strV w nv names)
    (hnl : (16 + names.length) * 16 ≤ 140737488355328)
    (hsr : ∀ x ∈ sup, -9223372036854775808 ≤ x ∧ x < 9223372036854775808) (hfr : ∀ x ∈ flds, -9223372036854775808 ≤ x ∧ x < 9223372036854775808) :
    Calls Try.prog 3 #[.agg #[sv, fv], nv] w (Back (.bool true) w) := by
  have HTW : Hid (∀ v, Below w.heap.size w v → Calls Try.prog 6 #[.agg #[sv, fv], .int .i64 100] v (TownR (min sup.length 6) sup flds 100 v)) :=
    Lib.hid (fun v hb => town_any 100 (by omega) sup flds sv fv v ((hsv.below hb).mono (fun b h _ => Nat.lt_of_lt_of_le h hb.size)) ((hfv.below hb).mono (fun b h _ => Nat.lt_of_lt_of_le h hb.size)) hsr hfr)
  obtain ⟨sa, sc, rfl, -, -⟩ := hsv.form
  obtain ⟨fa, fc, rfl, -, -⟩ := hfv.form
  have HNV := Lib.hid hnv
  obtain ⟨na, nc, rfl, -, -⟩ := hnv.form
  obtain ⟨sl, hsl⟩ : ∃ m, sup.length = m := ⟨_, rfl⟩
  obtain ⟨fl, hfl⟩ : ∃ m, flds.length = m := ⟨_, rfl⟩
  obtain ⟨nl, hnl2⟩ : ∃ m, names.length = m := ⟨_, rfl⟩
  rw [hsl, hfl] at HTW
  rw [hsl, hfl, hnl2]
  rw [hnl2] at hnl HNV
  obtain ⟨n, hn⟩ : ∃ n, min sl 6 = n := ⟨_, rfl⟩
  rw [hn] at HTW
  have HN6 := Lib.hid (show n ≤ 6 by omega)
  have HAW := Lib.hid awake17_any
  have HNL := Lib.hid hnl
  have HNL2 := Lib.hid hnl2
  obtain ⟨W1, hal1⟩ : ∃ W, w.alloc (.cells #[.slice sa sl sc, .slice fa fl fc] XT) = W := ⟨_, rfl⟩
  have b1 : Below w.heap.size w W1 := by rw [← hal1]; exact alloc_bel w _
  have q1 : Blk XT w.heap.size #[.slice sa sl sc, .slice fa fl fc] W1 := by rw [← hal1]; exact Blk.made w
  have HB1 := Lib.hid b1
  have HQ1 := Lib.hid q1
  clear hsv hfv hsr hfr hsl hfl hn b1 q1 hnl hnl2 hnv
  go_enter Try.func3, Try.ntmps3
  go_wp2_with fail
  refine (HAW.out W1).mono ?_; rintro e w2 ⟨rfl, hb2⟩
  have HB2 := Lib.hid (HB1.out.trans (hb2.mono HB1.out.size))
  have q2 := HQ1.out.below hb2 HQ1.out.lt
  have c0 : w2.cell? ⟨w.heap.size, 0, none⟩ = some (.slice sa sl sc) := q2.c 0 _ rfl
  have c1 : w2.cell? ⟨w.heap.size, 1, none⟩ = some (.slice fa fl fc) := q2.c 1 _ rfl
  clear hb2 q2
  go_wp2_with fail
  refine (HTW.out w2 HB2.out).mono ?_; rintro e w3 ⟨B, lv, rfl, hM3, hO3, hB3, hb3⟩
  obtain ⟨la, lc, rfl, -, -⟩ := hO3.form
  have HB3 := Lib.hid (HB2.out.trans (hb3.mono HB2.out.size))
  have HM3 := Lib.hid hM3
  have HO3 := Lib.hid hO3
  have HF := Lib.hid hM3.1
  obtain ⟨m, hm⟩ : ∃ m, (layL n sup flds).length = m := ⟨_, rfl⟩
  obtain ⟨N, hN⟩ : ∃ m, endL 2 (layL n sup flds) + 100 = m := ⟨_, rfl⟩
  rw [hN] at HM3 HF ⊢
  rw [hm] at HO3 ⊢
  unfold rhV
  obtain ⟨W4, hal4⟩ : ∃ W, w3.alloc (.cells #[.int .i64 (N : Int), .slice la m lc, .int .u32 0] RHT) = W := ⟨_, rfl⟩
  have b4 : Below w3.heap.size w3 W4 := by rw [← hal4]; exact alloc_bel w3 _
  have q4 : Blk RHT w3.heap.size #[.int .i64 (N : Int), .slice la m lc, .int .u32 0] W4 := by rw [← hal4]; exact Blk.made w3
  have k0 : W4.cell? ⟨w3.heap.size, 0, none⟩ = some (.int .i64 (N : Int)) := q4.c 0 _ rfl
  have k1 : W4.cell? ⟨w3.heap.size, 1, none⟩ = some (.slice la m lc) := q4.c 1 _ rfl
  have k2 : W4.cell? ⟨w3.heap.size, 2, none⟩ = some (.int .u32 0) := q4.c 2 _ rfl
  have HM4 := Lib.hid (HM3.out.bel b4)
  have HO4 := Lib.hid (HO3.out.bel b4)
  have HB4 := Lib.hid (HB3.out.trans (b4.mono HB3.out.size))
  have HAL4 := Lib.hid hal4
  have HLOOK : Hid (Calls Try.prog 7 #[.agg #[.int .i64 (N : Int), .slice la m lc, .int .u32 0], .int .u64 4] W4 (LkR (fun b => ¬ HB B b) N 0 (.slice la m lc) (rootW n) W4)) := Lib.hid (by
    have hfr := find_root (sup := sup) (flds := flds) HN6.out
    obtain ⟨k, hk, ho⟩ := idx_of hfr
    exact rlook_any (fun b => ¬ HB B b) N 0 4 k (.slice la m lc) (layL n sup flds) (listO 2 (rootW n)) W4 HO4.out (at_le HF.out) (by omega) hk ho)
  clear hal4 b4 q4 hm hN hM3 hO3 hB3 hb3 c0 c1
  go_upto_region 4 with fail
  have hal4 := HAL4.out
  rw [hal4]
  clear hal4 HAL4
  go_wp2_with fail
  refine HLOOK.out.mono ?_; rintro e w5 ⟨ra, rc, rfl, hR5, hb5⟩
  have h24 : (rootW n).length = 24 := rfl
  unfold lkV
  rw [h24] at hR5 ⊢
  have hz00 : ((0 : Nat) : Int) = 0 := rfl
  rw [hz00]
  obtain ⟨W6, hal6⟩ : ∃ W, w5.alloc (.cells #[.int .i64 (N : Int), .slice la m lc, .int .u32 0, .slice ra 24 rc] LKT) = W := ⟨_, rfl⟩
  have b6 : Below w5.heap.size w5 W6 := by rw [← hal6]; exact alloc_bel w5 _
  have q6 : Blk LKT w5.heap.size #[.int .i64 (N : Int), .slice la m lc, .int .u32 0, .slice ra 24 rc] W6 := by rw [← hal6]; exact Blk.made w5
  have HAL6 := Lib.hid hal6
  have HQ6 := Lib.hid q6
  have b46 : Below W4.heap.size W4 W6 := hb5.trans (b6.mono hb5.size)
  have HM6 := Lib.hid (HM4.out.bel b46)
  have HO6 := Lib.hid (HO4.out.bel b46)
  have HR6 := Lib.hid (hR5.below b6)
  have HB6 := Lib.hid (HB4.out.trans (b46.mono HB4.out.size))
  have HKE := Lib.hid (kernel_any W6)
  clear hal6 b6 q6 b46 hR5 hb5 h24 hz00 k0 k1 k2
  go_upto_region 7 with fail
  have hal6 := HAL6.out
  rw [hal6]
  clear hal6 HAL6
  go_wp2_with fail
  refine HKE.out.mono ?_; rintro e w7 ⟨kv, rfl, hK7, hb7⟩
  obtain ⟨ka, kc, rfl⟩ := hK7.form
  have h16 : kernelL.length = 16 := rfl
  rw [h16] at hK7 ⊢
  have HB7 := Lib.hid (HB6.out.trans (hb7.mono HB6.out.size))
  obtain ⟨vA, wA, hrunA, hOA, hgA⟩ := app_rs (xv := .slice na nl nc) hK7 ((HNV.out).kp (Kp.lt HB7.out)) (by rw [h16, HNL2.out]; exact HNL.out) hb7.size
  have HRA := Lib.hid hrunA
  have hbA := hb7.grown hgA hb7.size (fun k hk => (World.ownsRow.lt hK7 k hk).1)
  obtain ⟨TL, hTL⟩ : ∃ T, kernelL ++ names = T := ⟨_, rfl⟩
  have htl : TL.length = 16 + nl := by rw [← hTL, List.length_append, h16, HNL2.out]
  rw [hTL] at hOA
  obtain ⟨xa, xc, rfl⟩ := hOA.form
  obtain ⟨tn, htn⟩ : ∃ t, TL.length = t := ⟨_, rfl⟩
  have htn2 : (tn : Int) ≤ 8796093022208 := by have := HNL.out; omega
  rw [htn] at hOA HRA
  have HBA := Lib.hid hbA
  have HOA := Lib.hid hOA
  have HTN := Lib.hid htn
  have HTL := Lib.hid hTL
  clear hK7 hb7 hrunA hOA hgA hbA hTL htl htn h16
  go_wp2_with (at_builtin; refine wpList_app rfl _ _ _ rfl _ _ _ _ rfl rfl HRA.out ?_)
  go_loopw [29, 9, 10, 11, 12] (fun x _ _ _ _ wr => ∃ k : Nat, x = .int .i64 (k : Int) ∧ k ≤ tn ∧ Hid (Below wA.heap.size wA wr)) (fun x _ _ _ _ _ => tn - (intOf x).toNat)
  case atStart => exact ⟨0, rfl, Nat.zero_le _, Lib.hid (Below.refl _ _)⟩
  case round =>
    obtain ⟨k, rfl, hk, HI⟩ := hrel
    have HB6r : Hid (Below W6.heap.size W6 wr) := Lib.hid (HBA.out.trans (HI.out.mono HBA.out.size))
    have HBr : Hid (Below w.heap.size w wr) := Lib.hid (HB6.out.trans (HB6r.out.mono HB6.out.size))
    by_cases hkt : k < tn
    · have hd : decide ((k : Int) < (tn : Int)) = true := by simpa using hkt
      have hki : (k : Int) < (tn : Int) := by omega
      have hkw : IntKind.i64.wrap ((k : Int) + 1) = (k : Int) + 1 := IntWalk.i64_in _ (by omega)
      have hO : OwnS W6.heap.size wr (.slice xa tn xc) TL := own_below HOA.out HI.out
      obtain ⟨s, hs⟩ : ∃ s, TL[k]? = some s := ⟨_, List.getElem?_eq_getElem (by rw [HTN.out]; exact hkt)⟩
      obtain ⟨gx, hgx, -, -, -⟩ := (own_len hO).2 (by rw [HTN.out]; omega)
      subst hgx
      have cs := strs_at (by rw [← HTN.out] at hO; exact hO) k s hs
      by_cases h30 : 30 < k
      · have hd3 : decide ((30 : Int) < (k : Int)) = true := by simp; omega
        clear hO hs
        go_wp2_with fail
        go_ret
        exact ⟨rfl, HBr.out⟩
      · have hd3 : decide ((30 : Int) < (k : Int)) = false := by simp; omega
        have HSH : Hid (∀ v, Calls Try.prog 10 #[.string ⟨s.toArray⟩, .int .i64 200] v (Done (.string ⟨(shL s).toArray⟩) v)) := Lib.hid (fun v => by
          have := short17_any ⟨s.toArray⟩ 200 v
          rw [sh_short] at this
          exact this)
        have hMr := HM6.out.bel HB6r.out
        have HGL := Lib.hid (both_glob B N n HN6.out sup flds (shL s) wr hMr)
        have HRF : Hid (∀ v, Below wr.heap.size wr v → Calls Try.prog 11 #[.agg #[.int .i64 (N : Int), .slice la m lc, .int .u32 0, .slice ra 24 rc], .string ⟨(shL s).toArray⟩] v (Back (.int .u64 (globR n (shL s) : Int)) v)) := Lib.hid (fun v hb => by
          have hb6 := HB6r.out.trans (hb.mono HB6r.out.size)
          exact ref_globs (fun b => ¬ HB B b) N 0 n HN6.out sup flds (shL s) (.slice la m lc) ra rc v HF.out (HO6.out.bel hb6) (HR6.out.below hb6))
        have h16 : k < 16 → globR n (shL s) ≠ 0 := fun h => by
          have e : s = kernelL.getD k [] := by
            rw [← HTL.out, List.getElem?_append_left (by show k < 16; exact h)] at hs
            rw [List.getD_eq_getElem?_getD, hs]; rfl
          rw [e, kern_short k h]
          exact kern_in n HN6.out k h
        obtain ⟨G, hG⟩ : ∃ G, globR n (shL s) = G := ⟨_, rfl⟩
        rw [hG] at HGL HRF h16
        obtain ⟨IS, hIS⟩ : ∃ b, decide (G ≠ 0) = b := ⟨_, rfl⟩
        rw [hIS] at HGL
        obtain ⟨SB, hSB⟩ : ∃ b : ByteArray, ⟨(shL s).toArray⟩ = b := ⟨_, rfl⟩
        rw [hSB] at HSH HGL HRF
        obtain ⟨SA, hSA⟩ : ∃ b : ByteArray, ⟨s.toArray⟩ = b := ⟨_, rfl⟩
        rw [hSA] at HSH cs
        have hgz : ((G : Int) != 0) = IS := by
          rw [← hIS]
          by_cases h : G = 0
          · subst h; rfl
          · have : ((G : Int) != 0) = true := by simp; omega
            rw [this]; simp [h]
        have hin : IS = false → ¬ k < 16 := fun h1 h2 => by
          have := h16 h2
          rw [← hIS] at h1
          simp at h1
          exact this h1
        have HIN := Lib.hid hin
        have q6 := HQ6.out.below HB6r.out HQ6.out.lt
        have HS6 := Lib.hid (show ∀ v, Below wr.heap.size wr v → (v.cell? ⟨w5.heap.size, 0, none⟩ = some (.int .i64 (N : Int)) ∧ v.cell? ⟨w5.heap.size, 1, none⟩ = some (.slice la m lc) ∧ v.cell? ⟨w5.heap.size, 2, none⟩ = some (.int .u32 0) ∧ v.cell? ⟨w5.heap.size, 3, none⟩ = some (.slice ra 24 rc)) from fun v hb => by
          have q := q6.below hb q6.lt
          exact ⟨q.c 0 _ rfl, q.c 1 _ rfl, q.c 2 _ rfl, q.c 3 _ rfl⟩)
        clear hO hs hMr h16 hG hIS hSB hSA hin q6
        go_wp2_with fail
        refine (HSH.out _).mono ?_; rintro e w8 ⟨rfl, rfl⟩
        go_wp2_with fail
        refine HGL.out.mono ?_; rintro e w9 ⟨rfl, hb9⟩
        have HB9 := Lib.hid hb9
        clear hb9
        go_upto_region 12 with fail
        by_cases hk16 : k < 16
        · obtain rfl : IS = true := by cases IS with | true => rfl | false => exact absurd hk16 (HIN.out rfl)
          have hd16 : decide ((k : Int) < 16) = true := by simp; omega
          refine wp_region_noPanic ?_
          refine Hd.start (fun v => v.cell? ⟨w5.heap.size, 0, none⟩ = some (.int .i64 (N : Int)) ∧ v.cell? ⟨w5.heap.size, 1, none⟩ = some (.slice la m lc) ∧ v.cell? ⟨w5.heap.size, 2, none⟩ = some (.int .u32 0) ∧ v.cell? ⟨w5.heap.size, 3, none⟩ = some (.slice ra 24 rc)) (by kernel_rfl) (HS6.out _ (HB9.out.trans ((below_drewN w9 1).mono HB9.out.size))) (fun hH0 => ?_)
          refine Hd.tk 0 5 hH0 ?_
          refine Hd.tk 1 4 hH0 ?_
          refine Hd.tk 2 3 hH0 ?_
          refine Hd.on 3 (fun K hK => ?_)
          go_simp
          refine (HSH.out _).mono ?_; rintro e w10 ⟨rfl, rfl⟩
          refine hK.out _ _ hH0 (fun hH1 => ?_)
          clear hK K
          try simp only [Act.put, List.setIfInBounds_toArray, List.set_cons_zero, List.set_cons_succ]
          refine Hd.on 4 (fun K hK => ?_)
          go_simp
          refine (HRF.out _ (HB9.out.trans ((below_drewN w9 1).mono HB9.out.size))).mono ?_; rintro e w11 ⟨rfl, hb11⟩
          have HB11 := Lib.hid ((HB9.out.trans ((below_drewN w9 1).mono HB9.out.size)).trans (hb11.mono (HB9.out.trans ((below_drewN w9 1).mono HB9.out.size)).size))
          have HS11 := HS6.out w11 HB11.out
          clear hb11
          refine hK.out _ _ HS11 (fun hH2 => ?_)
          clear hK K
          try simp only [Act.put, List.setIfInBounds_toArray, List.set_cons_zero, List.set_cons_succ]
          refine Hd.tk 5 6 hH2 ?_
          refine Hd.tk 6 7 hH2 ?_
          refine Hd.tk 7 10 hH2 ?_
          refine Hd.tk 8 9 hH2 ?_
          refine Hd.tk 9 10 hH2 ?_
          refine Hd.tk 10 11 hH2 ?_
          refine Hd.tk 11 12 hH2 ?_
          refine Hd.tk 12 13 hH2 ?_
          refine Hd.tk 13 14 hH2 ?_
          refine Hd.tk 14 15 hH2 ?_
          refine Hd.tk 15 16 hH2 ?_
          refine Hd.tk 16 17 hH2 ?_
          refine Hd.tk 17 18 hH2 ?_
          refine Hd.tk 18 19 hH2 ?_
          refine Hd.la 19 (fun K hK => ?_)
          go_simp
          refine hK.out _ _ ?_
          clear hK K
          try simp only [Act.put, List.setIfInBounds_toArray, List.set_cons_zero, List.set_cons_succ]
          simp only [NoPanic]
          clear hH0 hH1 hH2 HS11
          go_wp2_with fail
          exact ⟨⟨k + 1, by simp, by omega, Lib.hid (HI.out.trans (HB11.out.mono HI.out.size))⟩, by simp only [intOf]; omega⟩
        · have hd16 : decide ((k : Int) < 16) = false := by simp; omega
          refine wp_region_noPanic ?_
          refine Hd.start (fun v => v.cell? ⟨w5.heap.size, 0, none⟩ = some (.int .i64 (N : Int)) ∧ v.cell? ⟨w5.heap.size, 1, none⟩ = some (.slice la m lc) ∧ v.cell? ⟨w5.heap.size, 2, none⟩ = some (.int .u32 0) ∧ v.cell? ⟨w5.heap.size, 3, none⟩ = some (.slice ra 24 rc)) (by kernel_rfl) (HS6.out _ (HB9.out.trans ((below_drewN w9 1).mono HB9.out.size))) (fun hH0 => ?_)
          refine Hd.tk 0 5 hH0 ?_
          refine Hd.tk 1 4 hH0 ?_
          refine Hd.tk 2 3 hH0 ?_
          refine Hd.on 3 (fun K hK => ?_)
          go_simp
          refine (HSH.out _).mono ?_; rintro e w10 ⟨rfl, rfl⟩
          refine hK.out _ _ hH0 (fun hH1 => ?_)
          clear hK K
          try simp only [Act.put, List.setIfInBounds_toArray, List.set_cons_zero, List.set_cons_succ]
          refine Hd.on 4 (fun K hK => ?_)
          go_simp
          refine (HRF.out _ (HB9.out.trans ((below_drewN w9 1).mono HB9.out.size))).mono ?_; rintro e w11 ⟨rfl, hb11⟩
          have HB11 := Lib.hid ((HB9.out.trans ((below_drewN w9 1).mono HB9.out.size)).trans (hb11.mono (HB9.out.trans ((below_drewN w9 1).mono HB9.out.size)).size))
          have HS11 := HS6.out w11 HB11.out
          clear hb11
          refine hK.out _ _ HS11 (fun hH2 => ?_)
          clear hK K
          try simp only [Act.put, List.setIfInBounds_toArray, List.set_cons_zero, List.set_cons_succ]
          refine Hd.tk 5 6 hH2 ?_
          refine Hd.tk 6 7 hH2 ?_
          refine Hd.tk 7 10 hH2 ?_
          refine Hd.tk 8 9 hH2 ?_
          refine Hd.tk 9 10 hH2 ?_
          refine Hd.tk 10 11 hH2 ?_
          refine Hd.tk 11 12 hH2 ?_
          refine Hd.tk 12 13 hH2 ?_
          refine Hd.tk 13 14 hH2 ?_
          refine Hd.tk 14 15 hH2 ?_
          refine Hd.tk 15 16 hH2 ?_
          refine Hd.sk 16 17 hH2 ?_
          refine Hd.sk 17 18 hH2 ?_
          refine Hd.tk 18 19 hH2 ?_
          refine Hd.la 19 (fun K hK => ?_)
          go_simp
          refine hK.out _ _ ?_
          clear hK K
          try simp only [Act.put, List.setIfInBounds_toArray, List.set_cons_zero, List.set_cons_succ]
          simp only [NoPanic]
          clear hH0 hH1 hH2 HS11
          go_wp2_with fail
          exact ⟨⟨k + 1, by simp, by omega, Lib.hid (HI.out.trans (HB11.out.mono HI.out.size))⟩, by simp only [intOf]; omega⟩
    · have hd : decide ((k : Int) < (tn : Int)) = false := by simp; omega
      go_wp2_with fail
      go_ret
      exact ⟨rfl, HBr.out⟩
end Hp
end Go.Proofs.Ytojblndlchcjeaa
