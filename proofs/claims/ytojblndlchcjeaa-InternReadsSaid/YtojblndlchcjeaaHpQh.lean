/- Chapter 17, the walk: InternReads. -/
import Derived.Test.YtojblndlchcjeaaHpAf
import Derived.Test.YtojblndlchcjeaaHpAg
import Derived.Test.YtojblndlchcjeaaHpRo
import Derived.Deep.DeepCutAuto
set_option linter.unusedVariables false
namespace Go.Proofs.Ytojblndlchcjeaa
open Go.RowKit
namespace Hp
open Bs Sm
/-- The item that is handed back (none: zeros), and the error. -/
def ixOf : Except Int It → It
  | .error _ => .mk 0 [] 0 0 0 []
  | .ok x => x
def erOf : Except Int It → Int
  | .error e => e
  | .ok _ => 0
theorem RdR.uni {R : Except Int It} {w w' : World} {e : Ending} (h : RdR R w e w') : ∃ ka kc, e = .returned (.tuple #[itV (ixOf R) (.slice ka (ixOf R).kids.length kc), .int .i64 (erOf R)]) ∧ Its (fun b => w.heap.size ≤ b) w' (.slice ka (ixOf R).kids.length kc) (ixOf R).kids := by
  obtain ⟨-, h⟩ := h
  cases R with
  | error er => exact ⟨none, 0, h.2, Its.nil _ _⟩
  | ok x =>
    obtain ⟨ka, kc, h1, h2⟩ := h
    exact ⟨ka, kc, h1, h2⟩
theorem ix_len {R : Except Int It} {m : Nat} (h : ∀ x, R = .ok x → LenI m x.kids) : LenI m (ixOf R).kids := by
  cases R with
  | error e => exact LenI.nil m
  | ok x => exact h x rfl
/-- One item in a block of its own, as a list. -/
theorem one_its {T b : Nat} {x : It} {ka : Option Addr} {kc kl : Nat} {w : World} (hkl : x.kids.length = kl) (hq : Blk T b #[.int .i64 x.kind, .string ⟨x.name.toArray⟩, .int .i64 x.num, .int .i64 x.slot, .int .i64 x.width, .slice ka kl kc] w) (hk : Its (fun _ => True) w (.slice ka kl kc) x.kids) :
    Its (fun _ => True) w (.slice (some ⟨b, 0, none⟩) 1 1) [x] := by
  refine Its.mk [(x, .slice ka kl kc)] (some ⟨b, 0, none⟩) 1 (Nat.le_refl _) (by unfold maxLen; omega) (fun _ => ⟨b, 0, rfl, trivial, hq.lt, fun i y hy => ?_⟩) (fun y hy => ?_)
  · have hi : i = 0 := by have := (List.getElem?_eq_some_iff.1 hy).1; simp at this; exact this
    subst hi
    simp at hy
    subst hy
    exact ⟨hq.c 0 _ rfl, hq.c 1 _ rfl, hq.c 2 _ rfl, hq.c 3 _ rfl, hq.c 4 _ rfl, hq.c 5 _ rfl⟩
  · obtain rfl := List.mem_singleton.1 hy
    exact hk
theorem lay_arr (n : Nat) (sup flds : List Int) : ∀ o ∈ layL n sup flds, o.hd.cls = rt (townK n sup flds) 14 → o.hd.kind ≠ 2 := by
  intro o ho hc
  have h14 : rt (townK n sup flds) 14 = arrC := rfl
  rw [h14] at hc
  unfold layL at ho
  simp only [List.mem_cons, List.mem_append, List.mem_map, List.mem_flatMap, List.mem_range, List.not_mem_nil, or_false] at ho
  have hs : symC ≠ arrC := by decide
  rcases ho with rfl | (((⟨_, -, rfl⟩ | ⟨_, -, rfl⟩) | ⟨_, -, rfl⟩) | ⟨i, -, hi⟩) | rfl | rfl | rfl | rfl
  · show ¬ (1 = 2); decide
  · show ¬ (0 = 2); decide
  · show ¬ (0 = 2); decide
  · show ¬ (0 = 2); decide
  · unfold partO at hi
    simp only [List.mem_cons, List.not_mem_nil, or_false] at hi
    rcases hi with rfl | rfl | rfl | rfl | rfl
    · show ¬ (1 = 2); decide
    · exact absurd hc hs
    · show ¬ (1 = 2); decide
    · show ¬ (1 = 2); decide
    · show ¬ (1 = 2); decide
  · show ¬ (1 = 2); decide
  · exact absurd hc hs
  · show ¬ (1 = 2); decide
  · show ¬ (1 = 2); decide
/-- A town's memory is as the program's reader wants it. -/
theorem town_rd (B : Bks) (N n : Nat) (hn : n ≤ 6) (sup flds : List Int) : RdC B N (layL n sup flds) 0 4 (townK n sup flds) (globR n) :=
  ⟨rfl, by omega, fun i hi => get_root hn i hi, fun b v h => both_glob B N n hn sup flds b v h, lay_arr n sup flds⟩
theorem words_le {N last : Nat} {l : List Ob} (hf : Fine N l last) : ∀ o ∈ l, o.words.length ≤ 2000000 ∧ ∀ x ∈ o.words, x < 18446744073709551616 := by
  intro o ho
  have hok := hf.ok o ho
  by_cases hk : o.hd.kind = 2
  · have h := (hok.bytes hk).2
    rw [h]
    exact ⟨by simp, fun x hx => by cases hx⟩
  · have h := hok.words hk
    have h2 := ((okB_iff _).1 hok.hd).2.2.1
    exact ⟨by omega, h.2.2⟩
/-- .. and as the reference's wants it. -/
theorem town_rf {N last : Nat} (n : Nat) (hn : n ≤ 6) (sup flds : List Int) (hf : Fine N (layL n sup flds) last) : ∃ kg og, RfC (layL n sup flds) (rootW n) kg og := by
  have hfg := find_glob (sup := sup) (flds := flds) hn
  obtain ⟨kg, hk, ho⟩ := idx_of hfg
  refine ⟨kg, _, at_le hf, rfl, find_lt hf hfg, hk, ho, ?_, ?_, words_le hf⟩
  · have := (words_le hf _ (find_some hfg).1).1
    omega
  · intro i x hx
    have hio : i < (orderL n).length := by
      have h1 := (List.getElem?_eq_some_iff.1 hx).1
      have h2 : ((orderL n).flatMap (fun i => [2 * symAt n i, 2 * clsAt i])).length = 2 * (orderL n).length := by
        generalize orderL n = is
        induction is with
        | nil => rfl
        | cons i is ih => rw [List.flatMap_cons, List.length_append, ih, List.length_cons]; simp; omega
      have h3 : 2 * i < ((orderL n).flatMap (fun i => [2 * symAt n i, 2 * clsAt i])).length := h1
      omega
    have hp := (pairs_at (fun i => 2 * symAt n i) (fun i => 2 * clsAt i) (orderL n) i hio).1
    have hx2 : ((orderL n).flatMap (fun i => [2 * symAt n i, 2 * clsAt i]))[2 * i]? = some x := hx
    rw [hp] at hx2
    cases hx2
    have hlt : (orderL n).getD i 0 < NN n := order_lt n hn _ (by rw [List.getD_eq_getElem?_getD, List.getElem?_eq_getElem hio]; exact List.getElem_mem hio)
    have hfs := find_sym (sup := sup) (flds := flds) hn hlt
    obtain ⟨k, h1, h2⟩ := idx_of hfs
    exact ⟨find_lt hf hfs, k, _, h1, h2⟩
theorem run_body (v0 v1 v2 v3 : Value) (ya : Option Addr) (yn yc : Nat) (w : World) : (Instr.field 63 (.agg #[v0, v1, v2, v3, .slice ya yn yc]) 4).run Try.prog w = .ok (.slice ya yn yc) w := by kernel_rfl
set_option maxRecDepth 100000 in
set_option maxHeartbeats 3200000 in
theorem reads_walk (sup flds : List Int) (at_ : Int) (wd : Nat) (sv fv : Value) (w : World) (hsv : Rd (fun b => b < w.heap.size) iV w sv sup) (hfv : Rd (fun b => b < w.heap.size) iV w fv flds)
    (hat1 : -9223372036854775808 ≤ at_) (hat2 : at_ < 9223372036854775808) (hwd : wd < 18446744073709551616)
    (hsr : ∀ x ∈ sup, -9223372036854775808 ≤ x ∧ x < 9223372036854775808) (hfr : ∀ x ∈ flds, -9223372036854775808 ≤ x ∧ x < 9223372036854775808) :
    Calls Try.prog 4 #[.agg #[sv, fv], .int .i64 at_, .int .u64 (wd : Int)] w (Back (.bool true) w) := by
  have HTW : Hid (∀ v, Below w.heap.size w v → Calls Try.prog 6 #[.agg #[sv, fv], .int .i64 100] v (TownR (min sup.length 6) sup flds 100 v)) :=
    Lib.hid (fun v hb => town_any 100 (by omega) sup flds sv fv v ((hsv.below hb).mono (fun b h _ => Nat.lt_of_lt_of_le h hb.size)) ((hfv.below hb).mono (fun b h _ => Nat.lt_of_lt_of_le h hb.size)) hsr hfr)
  obtain ⟨sa, sc, rfl, -, -⟩ := hsv.form
  obtain ⟨fa, fc, rfl, -, -⟩ := hfv.form
  obtain ⟨sl, hsl⟩ : ∃ m, sup.length = m := ⟨_, rfl⟩
  obtain ⟨fl, hfl⟩ : ∃ m, flds.length = m := ⟨_, rfl⟩
  rw [hsl, hfl] at HTW
  rw [hsl, hfl]
  obtain ⟨n, hn⟩ : ∃ n, min sl 6 = n := ⟨_, rfl⟩
  rw [hn] at HTW
  have HN6 := Lib.hid (show n ≤ 6 by omega)
  have HAW := Lib.hid awake17_any
  have HWD := Lib.hid hwd
  have HAT := Lib.hid (And.intro hat1 hat2)
  obtain ⟨W1, hal1⟩ : ∃ W, w.alloc (.cells #[.slice sa sl sc, .slice fa fl fc] XT) = W := ⟨_, rfl⟩
  have b1 : Below w.heap.size w W1 := by rw [← hal1]; exact alloc_bel w _
  have q1 : Blk XT w.heap.size #[.slice sa sl sc, .slice fa fl fc] W1 := by rw [← hal1]; exact Blk.made w
  have HB1 := Lib.hid b1
  have HQ1 := Lib.hid q1
  clear hsv hfv hsr hfr hsl hfl hn b1 q1 hwd hat1 hat2
  go_enter Try.func4, Try.ntmps4
  go_wp2_with fail
  refine (HAW.out W1).mono ?_; rintro e w2 ⟨rfl, hb2⟩
  have HB2 := Lib.hid (HB1.out.trans (hb2.mono HB1.out.size))
  have q2 := HQ1.out.below hb2 HQ1.out.lt
  have c0 : w2.cell? ⟨w.heap.size, 0, none⟩ = some (.slice sa sl sc) := q2.c 0 _ rfl
  have c1 : w2.cell? ⟨w.heap.size, 1, none⟩ = some (.slice fa fl fc) := q2.c 1 _ rfl
  clear hb2 q2
  go_wp2_with fail
  refine (HTW.out w2 HB2.out).mono ?_; rintro e w3 ⟨B, lv, rfl, hM3, hO3, hB3, hb3⟩
  obtain ⟨la, lc, rfl, -, -⟩ := hO3.form
  have HB3 := Lib.hid (HB2.out.trans (hb3.mono HB2.out.size))
  have HM3 := Lib.hid hM3
  have HO3 := Lib.hid hO3
  have HF := Lib.hid hM3.1
  obtain ⟨m, hm⟩ : ∃ m, (layL n sup flds).length = m := ⟨_, rfl⟩
  obtain ⟨N, hN⟩ : ∃ m, endL 2 (layL n sup flds) + 100 = m := ⟨_, rfl⟩
  rw [hN] at HM3 HF ⊢
  rw [hm] at HO3 ⊢
  have hm0 : 0 < m := by
    have h2 : 17 ≤ (layL n sup flds).length := by
      unfold layL NN
      simp only [List.length_cons, List.length_append, List.length_map, List.length_range]
      omega
    omega
  have hmz : ((m : Int) == 0) = false := by simp; omega
  have hmb : (m : Int) ≤ 16777216 := by
    have h1 := len_end (layL n sup flds) 2
    have h2 := HF.out.fit
    have h3 := HF.out.hi
    omega
  unfold rhV
  obtain ⟨W4, hal4⟩ : ∃ W, w3.alloc (.cells #[.int .i64 (N : Int), .slice la m lc, .int .u32 0] RHT) = W := ⟨_, rfl⟩
  have b4 : Below w3.heap.size w3 W4 := by rw [← hal4]; exact alloc_bel w3 _
  have q4 : Blk RHT w3.heap.size #[.int .i64 (N : Int), .slice la m lc, .int .u32 0] W4 := by rw [← hal4]; exact Blk.made w3
  have k1 : W4.cell? ⟨w3.heap.size, 1, none⟩ = some (.slice la m lc) := q4.c 1 _ rfl
  have HM4 := Lib.hid (HM3.out.bel b4)
  have HO4 := Lib.hid (HO3.out.bel b4)
  have HB4 := Lib.hid (HB3.out.trans (b4.mono HB3.out.size))
  have HQ4 := Lib.hid q4
  have HAL4 := Lib.hid hal4
  clear hal4 b4 q4 hm hN hM3 hO3 hB3 hb3 c0 c1
  go_upto_region 4 with fail
  have hal4 := HAL4.out
  rw [hal4]
  clear hal4 HAL4
  obtain ⟨BG, hBG⟩ : ∃ b, decide (at_ ≥ 0) = b := ⟨_, rfl⟩
  go_upto_if 26 with fail
  have HBG := Lib.hid hBG
  clear hBG
  go_cut [2] from 27 to 38 (fun s2 wx => ∃ W : Nat, s2 = .int .u64 (W : Int) ∧ W < 18446744073709551616 ∧ Hid (Below W4.heap.size W4 wx))
  case first =>
    by_cases h0 : 0 ≤ at_
    · obtain rfl : BG = true := by rw [← HBG.out]; simpa using h0
      obtain ⟨t, rfl⟩ : ∃ t : Nat, at_ = (t : Int) := ⟨at_.toNat, by omega⟩
      obtain ⟨i, hi⟩ : ∃ i, t % m = i := ⟨_, rfl⟩
      have him : i < m := by rw [← hi]; exact Nat.mod_lt _ hm0
      have hie : (t : Int) % (m : Int) = (i : Int) := by rw [← hi]; exact (Int.natCast_emod t m).symm
      have hie2 : (t : Int).tmod (m : Int) = (i : Int) := by rw [← hie]; exact Int.tmod_eq_emod_of_nonneg (by omega)
      obtain ⟨g, off, o, wv, bv, rfl, ho, -, hgl, hrow, -, -⟩ := HO4.out.nth i him
      have hoat := at_le HF.out o (List.mem_of_getElem? ho)
      obtain ⟨p, hp⟩ : ∃ p, off + i * 8 = p := ⟨_, rfl⟩
      rw [hp] at hrow
      have r0 := hrow.1
      obtain ⟨oa, hoa⟩ : ∃ a, o.at_ = a := ⟨_, rfl⟩
      dsimp only at r0
      rw [hoa] at r0 hoat
      have him2 : (i : Int) < (m : Int) := by omega
      have hi0 : (0 : Int) ≤ (i : Int) := by omega
      have hoi : (oa : Int) ≤ 16777216 := by omega
      have hww : IntKind.i64.wrap (2 * (oa : Int)) = 2 * (oa : Int) := IntWalk.i64_in _ (by omega)
      have hwu : IntKind.u64.wrap (2 * (oa : Int)) = 2 * (oa : Int) := by unfold IntKind.wrap; simp [IntKind.bits]; omega
      clear hi ho hrow hoa hgl
      go_wp2_with fail
      go_quiet (fail)
      go_wp2_with fail
      go_meet
      exact ⟨2 * oa, by simp, by omega, Lib.hid (below_drewN W4 nq)⟩
    · obtain rfl : BG = false := by rw [← HBG.out]; simp; omega
      go_wp2_with fail
      go_meet
      exact ⟨wd, rfl, HWD.out, Lib.hid (Below.refl _ _)⟩
  case rest =>
    rename World => w5
    obtain ⟨W, rfl, hW, hb5⟩ := hcut
    have hb45 := hb5.out
    have HM5 := Lib.hid (HM4.out.bel hb45)
    have HO5 := Lib.hid (HO4.out.bel hb45)
    have HB5 := Lib.hid (HB4.out.trans (hb45.mono HB4.out.size))
    have HQ5 := Lib.hid (HQ4.out.below hb45 HQ4.out.lt)
    have HW := Lib.hid hW
    obtain ⟨A, hA⟩ : ∃ A, readG (townK n sup flds) 13 10 (clsPg (townK n sup flds) (globR n)) 41 W 1 = A := ⟨_, rfl⟩
    have HA2 : Hid (readG ⟨layL n sup flds, rootW n⟩ 13 10 (clsRef ⟨layL n sup flds, rootW n⟩) 41 W 1 = A) := Lib.hid (by rw [← hA]; exact (read_same HN6.out 13 10 41 W 1).symm)
    have HRE := Lib.hid (Read_any B N (layL n sup flds) 0 4 (townK n sup flds) (globR n) (town_rd B N n HN6.out sup flds) W w5 HM5.out hW)
    rw [hA] at HRE
    have HLEN : Hid (LenI 2000000 (ixOf A).kids) := Lib.hid (ix_len (fun x hx => readG_len (fun o ho => (words_le HF.out o ho).1) 41 W 1 x (hA.trans hx)))
    clear hb5 hb45 hW hA k1 hm0 hmz hmb HAT HWD
    go_wp2_with fail
    refine HRE.out.mono ?_; intro e w6 hr6
    have hb6 : Below w5.heap.size w5 w6 := hr6.1
    obtain ⟨ka, kc, rfl, hits6⟩ := hr6.uni
    unfold itV
    obtain ⟨X, hX⟩ : ∃ X, ixOf A = X := ⟨_, rfl⟩
    obtain ⟨E, hE⟩ : ∃ E, erOf A = E := ⟨_, rfl⟩
    rw [hX] at hits6 HLEN
    rw [hX, hE]
    obtain ⟨kl, hkl⟩ : ∃ q, X.kids.length = q := ⟨_, rfl⟩
    rw [hkl] at hits6 ⊢
    have HKL := Lib.hid hkl
    have HX := Lib.hid hX
    have HE := Lib.hid hE
    obtain ⟨W7, hal7⟩ : ∃ W, w6.alloc (.cells #[.int .i64 X.kind, .string ⟨X.name.toArray⟩, .int .i64 X.num, .int .i64 X.slot, .int .i64 X.width, .slice ka kl kc] IT) = W := ⟨_, rfl⟩
    have b7 : Below w6.heap.size w6 W7 := by rw [← hal7]; exact alloc_bel w6 _
    have q7 : Blk IT w6.heap.size #[.int .i64 X.kind, .string ⟨X.name.toArray⟩, .int .i64 X.num, .int .i64 X.slot, .int .i64 X.width, .slice ka kl kc] W7 := by rw [← hal7]; exact Blk.made w6
    have hb57 := hb6.trans (b7.mono hb6.size)
    have HO7 := Lib.hid (HO5.out.bel hb57)
    have HB7 := Lib.hid (HB5.out.trans (hb57.mono HB5.out.size))
    have qr7 := HQ5.out.below hb57 HQ5.out.lt
    have HI7 := Lib.hid ((hits6.mono (S' := fun _ => True) (fun _ _ _ => trivial)).bel b7)
    have HQ7 := Lib.hid q7
    have k0 : W7.cell? ⟨w3.heap.size, 0, none⟩ = some (.int .i64 (N : Int)) := qr7.c 0 _ rfl
    have k1 : W7.cell? ⟨w3.heap.size, 1, none⟩ = some (.slice la m lc) := qr7.c 1 _ rfl
    have k2 : W7.cell? ⟨w3.heap.size, 2, none⟩ = some (.int .u32 0) := qr7.c 2 _ rfl
    have HLOOK : Hid (Calls Try.prog 7 #[.agg #[.int .i64 (N : Int), .slice la m lc, .int .u32 0], .int .u64 4] W7 (LkR (fun b => ¬ HB B b) N 0 (.slice la m lc) (rootW n) W7)) := Lib.hid (by
      have hfr := find_root (sup := sup) (flds := flds) HN6.out
      obtain ⟨k, hk, ho⟩ := idx_of hfr
      exact rlook_any (fun b => ¬ HB B b) N 0 4 k (.slice la m lc) (layL n sup flds) (listO 2 (rootW n)) W7 HO7.out (at_le HF.out) (by omega) hk ho)
    clear hb6 hr6 hits6 hX hE hkl b7 q7 hb57 qr7
    go_wp2_with fail
    refine HLOOK.out.mono ?_; rintro e w8 ⟨ra, rc, rfl, hR8, hb8⟩
    have h24 : (rootW n).length = 24 := rfl
    unfold lkV
    rw [h24] at hR8 ⊢
    have hz00 : ((0 : Nat) : Int) = 0 := rfl
    rw [hz00]
    have HO8 := Lib.hid (HO7.out.bel hb8)
    have HB8 := Lib.hid (HB7.out.trans (hb8.mono HB7.out.size))
    have HQ8 := Lib.hid (HQ7.out.below hb8 HQ7.out.lt)
    have HI8 := Lib.hid (HI7.out.bel hb8)
    obtain ⟨kg, og, hC⟩ := town_rf n HN6.out sup flds HF.out
    have HRR : Hid (Calls Try.prog 13 #[.agg #[.int .i64 (N : Int), .slice la m lc, .int .u32 0, .slice ra 24 rc], .int .u64 (W : Int), .int .i64 1] w8 (RdR A w8)) := Lib.hid (by
      have h := rread_all (fun b => ¬ HB B b) N 0 24 rc kg ra (.slice la m lc) (rootW n) (layL n sup flds) og hC 40 1 rfl W w8 HO8.out hR8 HW.out
      rw [HA2.out] at h
      exact h)
    clear h24 hz00 hR8 hb8 hC k0 k1 k2
    go_wp2_with fail
    refine HRR.out.mono ?_; intro e w9 hr9
    have hb9 : Below w8.heap.size w8 w9 := hr9.1
    obtain ⟨kb, kcb, rfl, hits9⟩ := hr9.uni
    unfold itV
    rw [HX.out] at hits9
    rw [HX.out, HE.out]
    rw [HKL.out] at hits9 ⊢
    obtain ⟨W10, hal10⟩ : ∃ W, w9.alloc (.cells #[.int .i64 X.kind, .string ⟨X.name.toArray⟩, .int .i64 X.num, .int .i64 X.slot, .int .i64 X.width, .slice kb kl kcb] RIT) = W := ⟨_, rfl⟩
    have b10 : Below w9.heap.size w9 W10 := by rw [← hal10]; exact alloc_bel w9 _
    have q10 : Blk RIT w9.heap.size #[.int .i64 X.kind, .string ⟨X.name.toArray⟩, .int .i64 X.num, .int .i64 X.slot, .int .i64 X.width, .slice kb kl kcb] W10 := by rw [← hal10]; exact Blk.made w9
    have hb810 := hb9.trans (b10.mono hb9.size)
    have HB10 := Lib.hid (HB8.out.trans (hb810.mono HB8.out.size))
    have HQ10 := Lib.hid (HQ8.out.below hb810 HQ8.out.lt)
    have HI10 := Lib.hid (HI8.out.bel hb810)
    have HJ10 := Lib.hid ((hits9.mono (S' := fun _ => True) (fun _ _ _ => trivial)).bel b10)
    have HP10 := Lib.hid q10
    have e0 : W10.cell? ⟨w6.heap.size, 0, none⟩ = some (.int .i64 X.kind) := HQ10.out.c 0 _ rfl
    have e1 : W10.cell? ⟨w6.heap.size, 1, none⟩ = some (.string ⟨X.name.toArray⟩) := HQ10.out.c 1 _ rfl
    have e2 : W10.cell? ⟨w6.heap.size, 2, none⟩ = some (.int .i64 X.num) := HQ10.out.c 2 _ rfl
    have e3 : W10.cell? ⟨w6.heap.size, 3, none⟩ = some (.int .i64 X.slot) := HQ10.out.c 3 _ rfl
    have e4 : W10.cell? ⟨w6.heap.size, 4, none⟩ = some (.int .i64 X.width) := HQ10.out.c 4 _ rfl
    have e5 : W10.cell? ⟨w6.heap.size, 5, none⟩ = some (.slice ka kl kc) := HQ10.out.c 5 _ rfl
    obtain ⟨W11, hal11⟩ : ∃ W, W10.alloc (.cells #[.int .i64 X.kind, .string ⟨X.name.toArray⟩, .int .i64 X.num, .int .i64 X.slot, .int .i64 X.width, .slice ka kl kc] IT) = W := ⟨_, rfl⟩
    have b11 : Below W10.heap.size W10 W11 := by rw [← hal11]; exact alloc_bel W10 _
    have q11 : Blk IT W10.heap.size #[.int .i64 X.kind, .string ⟨X.name.toArray⟩, .int .i64 X.num, .int .i64 X.slot, .int .i64 X.width, .slice ka kl kc] W11 := by rw [← hal11]; exact Blk.made W10
    have HB11 := Lib.hid (HB10.out.trans (b11.mono HB10.out.size))
    have HJ11 := Lib.hid (HJ10.out.bel b11)
    have HP11 := Lib.hid (HP10.out.below b11 HP10.out.lt)
    have HTD := Lib.hid (told_any ⟨#[]⟩ 0 0 0 (some ⟨W10.heap.size, 0, none⟩) 1 1 [X] W11 (one_its HKL.out q11 (HI10.out.bel b11)) (.mk [X] (by simp) (fun y hy => by obtain rfl := List.mem_singleton.1 hy; exact HLEN.out)))
    clear hb9 hr9 hits9 b10 q10 hb810 b11 q11
    go_wp2_with fail
    refine HTD.out.mono ?_; rintro e w12 ⟨hb12, ya, yc, rfl, hY⟩
    have HB12 := Lib.hid (HB11.out.trans (hb12.mono HB11.out.size))
    have HJ12 := Lib.hid (HJ11.out.bel hb12)
    have qp12 := HP11.out.below hb12 HP11.out.lt
    have HY := Lib.hid (hY.mono (S' := fun _ => True) (fun _ _ _ => trivial))
    have f0 : w12.cell? ⟨w9.heap.size, 0, none⟩ = some (.int .i64 X.kind) := qp12.c 0 _ rfl
    have f1 : w12.cell? ⟨w9.heap.size, 1, none⟩ = some (.string ⟨X.name.toArray⟩) := qp12.c 1 _ rfl
    have f2 : w12.cell? ⟨w9.heap.size, 2, none⟩ = some (.int .i64 X.num) := qp12.c 2 _ rfl
    have f3 : w12.cell? ⟨w9.heap.size, 3, none⟩ = some (.int .i64 X.slot) := qp12.c 3 _ rfl
    have f4 : w12.cell? ⟨w9.heap.size, 4, none⟩ = some (.int .i64 X.width) := qp12.c 4 _ rfl
    have f5 : w12.cell? ⟨w9.heap.size, 5, none⟩ = some (.slice kb kl kcb) := qp12.c 5 _ rfl
    obtain ⟨W13, hal13⟩ : ∃ W, w12.alloc (.cells #[.int .i64 X.kind, .string ⟨X.name.toArray⟩, .int .i64 X.num, .int .i64 X.slot, .int .i64 X.width, .slice kb kl kcb] RIT) = W := ⟨_, rfl⟩
    have b13 : Below w12.heap.size w12 W13 := by rw [← hal13]; exact alloc_bel w12 _
    have q13 : Blk RIT w12.heap.size #[.int .i64 X.kind, .string ⟨X.name.toArray⟩, .int .i64 X.num, .int .i64 X.slot, .int .i64 X.width, .slice kb kl kcb] W13 := by rw [← hal13]; exact Blk.made w12
    have HB13 := Lib.hid (HB12.out.trans (b13.mono HB12.out.size))
    have HSM := Lib.hid (sm_any [X] (.slice ya 1 yc) (.slice (some ⟨w12.heap.size, 0, none⟩) 1 1) W13 (HY.out.bel b13) (one_its HKL.out q13 (HJ12.out.bel b13)))
    have hbody := run_body (.string ⟨#[]⟩) (.int .i64 0) (.int .i64 0) (.int .i64 0) ya 1 yc w12
    clear hb12 hY qp12 b13 q13 e0 e1 e2 e3 e4 e5
    go_wp2_with fail
    refine HSM.out.mono ?_; rintro e w14 ⟨rfl, q, rfl⟩
    go_wp2_with fail
    go_ret
    exact ⟨rfl, HB13.out.trans ((below_drewN W13 q).mono HB13.out.size)⟩
end Hp
end Go.Proofs.Ytojblndlchcjeaa
