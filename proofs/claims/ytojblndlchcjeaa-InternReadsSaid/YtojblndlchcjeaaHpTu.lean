/- Chapter 08, the walk: Copy, Word, Kernel; a town's add. -/
import Derived.Test.YtojblndlchcjeaaHpTw
import Derived.Test.YtojblndlchcjeaaHpRe2
import Derived.Test.YtojblndlchcjeaaHpAa
set_option linter.unusedVariables false
namespace Go.Proofs.Ytojblndlchcjeaa
open Go.RowKit
namespace Hp
open Bs Sm
theorem yt_info : ∃ i : TypeInfo, Try.prog.info? YT = some i ∧ i.zero = some (.int .u8 0) ∧ i.size = 1 ∧ i.bytes = 1 := by
  obtain ⟨i, h, h1, h2, h3⟩ := info_parts (show (Try.prog.info? YT).map (fun i => (i.zero, i.size, i.bytes)) = some (some (.int .u8 0), 1, 1) by kernel_rfl)
  exact ⟨i, h, h1, h2, h3⟩
theorem byV_one (x : UInt8) : (byV x).oneCell' = true := rfl
/-- A copy of one's own. -/
def CopyR (l : List UInt8) (w : World) (e : Ending) (w' : World) : Prop := ∃ v, e = .returned v ∧ OwnY w.heap.size w' v l ∧ Below w.heap.size w w'
set_option maxRecDepth 100000 in
theorem copy_any {S : Nat → Prop} (l : List UInt8) (v : Value) (w : World) (hv : Rd S byV w v l) (hl : l.length ≤ 1048576) :
    Calls Try.prog 69 #[v] w (CopyR l w) := by
  obtain ⟨i0, hi0, hz0, hz1, hz2⟩ := yt_info
  obtain ⟨W1, hal1⟩ : ∃ W1, w.alloc (.cells #[] YT) = W1 := ⟨_, rfl⟩
  have b1 : Below w.heap.size w W1 := by rw [← hal1]; exact alloc_bel _ _
  have o1 : W1.ownsRow w.heap.size YT 1 (.slice (some ⟨w.heap.size, 0, none⟩) 0 0) 0 [] := by
    rw [← hal1]; exact World.ownsRow_made (e := YT) (size := 1) w #[] 0 (Nat.le_refl _) (by unfold maxLen; omega) rfl
  obtain ⟨v', w', r1, r2, r3⟩ := run_rd (P := Try.prog) byV_one 48 48 YT (by kernel_rfl) i0 (.int .u8 0) 1 hi0 hz0 hz1 hz2 rfl o1 (hv.below b1) (by unfold maxLen; omega) (by omega) b1.size
  have HR := Lib.hid r1
  have HO : Hid (OwnY w.heap.size w' v' l) := Lib.hid (by unfold OwnY; simpa using r2)
  have HB := Lib.hid (b1.grown r3 b1.size (fun k hk => (World.ownsRow.lt o1 k hk).1))
  clear hi0 hz0 hz1 hz2 r1 r2 r3 o1 b1 hv
  go_enter Try.func69, Try.ntmps69
  go_wp2_with (at_builtin; refine wpList_app rfl _ _ _ rfl _ _ _ _ rfl rfl HR.out ?_)
  go_ret
  exact ⟨_, rfl, HO.out, HB.out⟩
set_option maxRecDepth 100000 in
theorem word_any (n : Nat) (hn : n ≤ 100000) (w : World) : Calls Try.prog 42 #[.int .i64 (n : Int)] w (Done (.int .u64 (wordN n : Nat)) w) := by
  have h1 : IntKind.u64.wrap (IntKind.u64.wrap (IntKind.u64.wrap (n : Int) * 2) + 1) = ((wordN n : Nat) : Int) := by unfold wordN; simp only [wrap_u64_eq]; omega
  have HB := Lib.hid h1; clear h1
  go_enter Try.func42, Try.ntmps42
  go_wp2_with fail
  go_ret
  exact ⟨ret1 (vint (by first | exact HB.out | (unfold wordN; omega))), rfl⟩
theorem app_o {w : World} {B k : Nat} {v : Value} {vl : List OV} {x : OV} (h : OwnO B w v vl) (hx : Blk OT k (obC x).toArray w) (h6 : x.2.1.oneCell' = true) (h7 : x.2.2.oneCell' = true) (hn : vl.length ≤ 1000000) (hB : B ≤ w.heap.size) :
    ∃ v' w', (Builtin.append_ #[28, 28] 28 #[v, .slice (some ⟨k, 0, none⟩) 1 1]).run Try.prog w = .ok v' w' ∧ OwnO B w' v' (vl ++ [x]) ∧ w.grownBy w' v.ownBlock := by
  obtain ⟨i0, hi0, hz0, hz1, hz2⟩ := ot_info
  obtain ⟨v', w', r1, r2, r3, -⟩ := run_append_own (P := Try.prog) w B 28 28 OT i0 _ 8 88 (by kernel_rfl) hi0 hz0 hz1 hz2 rfl (by omega) v vl.length (flatO vl) h ⟨k, 0, none⟩ 1 1 (obC x) rfl (fun j u hj => by
    rw [addr_add]
    exact hx.c j u (by rw [List.getElem?_toArray]; exact hj)) (fun u hu => by
      unfold obC at hu
      simp only [List.mem_cons, List.not_mem_nil, or_false] at hu
      rcases hu with rfl | rfl | rfl | rfl | rfl | rfl | rfl | rfl
      all_goals first | rfl | exact h6 | exact h7) (by unfold maxLen; omega) (by omega) hB
  refine ⟨v', w', r1, ?_, r3⟩
  unfold OwnO
  rw [List.length_append, flatO_snoc]
  exact r2
/-- A town's object, of class 4. -/
def addO (vl : List OV) (kind : Nat) (ws : List Nat) (bs : List UInt8) : Ob := ⟨endL 2 (vl.map (·.1)), hdL 4 kind (if kind = 2 then bs.length else ws.length), ws, bs⟩
def AddR (B T sb root : Nat) (vl : List OV) (kind : Nat) (wv : Value) (ws : List Nat) (bs : List UInt8) (w : World) (e : Ending) (w' : World) : Prop :=
  ∃ lv' bv', e = .returned (.int .u64 ((2 * endL 2 (vl.map (·.1)) : Nat) : Int)) ∧ Tw B T sb w' lv' (vl ++ [(addO vl kind ws bs, wv, bv')]) root ∧ Tf B (fun _ => False) w w'
set_option maxRecDepth 100000 in
set_option maxHeartbeats 3200000 in
theorem add_any {S : Nat → Prop} (B T sb root kind : Nat) (vl : List OV) (lv wv bv : Value) (ws : List Nat) (bs : List UInt8) (w : World) (hw : Tw B T sb w lv vl root)
    (hc : Chain 2 (vl.map (·.1))) (hok : ∀ x ∈ vl, okB x.1.hd = true) (hE : endL 2 (vl.map (·.1)) ≤ 100000) (hvl : vl.length ≤ 100000) (hws : OwnU B w wv ws) (hbs : Rd S byV w bv bs) (hsz : ws.length ≤ 1048576 ∧ bs.length ≤ 1048576) (hk : kind ≤ 2) (hB : B ≤ w.heap.size) :
    Calls Try.prog 39 #[.pointer (some ⟨T, 0, none⟩), .int .i64 (kind : Int), wv, bv] w (AddR B T sb root vl kind wv ws bs w) := by
  have HU := Lib.hid (fun w hl => rused_any (fun _ => True) 3000 0 lv (vl.map (·.1)) w hl hc (fun o ho => by obtain ⟨x, hx, rfl⟩ := List.mem_map.1 ho; exact hok x hx) (by omega))
  have HC := Lib.hid (fun w hv => copy_any (S := S) bs bv w hv hsz.2)
  obtain ⟨E, hEE⟩ : ∃ E, endL 2 (vl.map (·.1)) = E := ⟨_, rfl⟩
  have HE := Lib.hid hEE
  rw [hEE] at hE HU
  obtain ⟨la, lc, rfl⟩ := hw.row.form
  obtain ⟨wa, wc, rfl⟩ := hws.form
  obtain ⟨ba, bc, rfl, -, -⟩ := hbs.form
  obtain ⟨m, hm⟩ : ∃ m, vl.length = m := ⟨_, rfl⟩
  obtain ⟨wn, hwn⟩ : ∃ m, ws.length = m := ⟨_, rfl⟩
  obtain ⟨bn, hbn⟩ : ∃ m, bs.length = m := ⟨_, rfl⟩
  obtain ⟨sz, hsz2⟩ : ∃ s, (if kind = 2 then bs.length else ws.length) = s := ⟨_, rfl⟩
  have HSZ := Lib.hid hsz2
  rw [hm] at hw hvl HU
  rw [hwn] at hws
  rw [hbn] at hbs HC
  rw [hwn, hbn] at hsz hsz2 ⊢
  have c0 := hw.blk.c 0 _ rfl
  have c1 := hw.blk.c 1 _ rfl
  have c2 := hw.blk.c 2 _ rfl
  have HW := Lib.hid hw
  have HWS := Lib.hid hws
  have HBS := Lib.hid hbs
  have HB := Lib.hid hB
  have HM := Lib.hid hm
  have HWN := Lib.hid hwn
  have HBN := Lib.hid hbn
  unfold rhV at HU
  have hz : ((0 : Nat) : Int) = 0 := rfl
  have hz3 : ((3000 : Nat) : Int) = 3000 := rfl
  rw [hz, hz3] at HU
  have hE64 : (E : Int) ≤ 100000 := by omega
  have HF : Hid (∀ (w2 w3 : World) (v3 : Value), Tf B (fun _ => False) w w2 → True) := Lib.hid (fun _ _ _ _ => trivial)
  have hk2 : kind = 2 ∨ ((kind : Int) == 2) = false := by by_cases h : kind = 2; exact .inl h; exact .inr (by simp; omega)
  clear hw hc hok hws hbs hB hm hwn hbn hEE hz hz3 HF HSZ
  rcases hk2 with rfl | hk2
  · have hszz : sz = bn := by rw [← hsz2]; rfl
    subst hszz
    clear hsz2
    go_enter Try.func39, Try.ntmps39
    go_wp2_with fail
    refine (HU.out _ HW.out.obs).mono ?_; rintro e w2 ⟨rfl, hb2⟩
    have HC2 := Lib.hid (HC.out w2 (HBS.out.below hb2))
    have HB2 := Lib.hid hb2
    clear hb2
    go_wp2_with fail
    refine HC2.out.mono ?_; rintro e w3 ⟨v3, rfl, hO3, hb3⟩
    obtain ⟨ca, cc, rfl⟩ := hO3.form
    rw [HBN.out] at hO3 ⊢
    obtain ⟨X, hX⟩ : ∃ X : OV, X = ((⟨E, hdL 4 2 sz, ws, bs⟩ : Ob), .slice wa wn wc, .slice ca sz cc) := ⟨_, rfl⟩
    have hXc : obC X = [.int .i64 (E : Int), .int .u64 4, .int .i64 2, .int .i64 (sz : Int), .int .u32 0, .bool false, .slice wa wn wc, .slice ca sz cc] := by rw [hX]; rfl
    obtain ⟨W4, hal4⟩ : ∃ W4, w3.alloc (.cells #[.int .i64 (E : Int), .int .u64 4, .int .i64 2, .int .i64 (sz : Int), .int .u32 0, .bool false, .slice wa wn wc, .slice ca sz cc] OT) = W4 := ⟨_, rfl⟩
    have b4 : Below w3.heap.size w3 W4 := by rw [← hal4]; exact alloc_bel _ _
    have qO : Blk OT w3.heap.size #[.int .i64 (E : Int), .int .u64 4, .int .i64 2, .int .i64 (sz : Int), .int .u32 0, .bool false, .slice wa wn wc, .slice ca sz cc] W4 := by rw [← hal4]; exact Blk.made _
    have b3 : Below w.heap.size w w3 := HB2.out.trans (hb3.mono HB2.out.size)
    have hW4 := (HW.out.bel b3).bel b4
    obtain ⟨W5, hal5⟩ : ∃ W5, W4.drew.alloc (.cells #[.int .i64 (E : Int), .int .u64 4, .int .i64 2, .int .i64 (sz : Int), .int .u32 0, .bool false, .slice wa wn wc, .slice ca sz cc] OT) = W5 := ⟨_, rfl⟩
    have b5 : Below W4.heap.size W4 W5 := by rw [← hal5]; exact (below_drewN W4 1).trans ((alloc_bel W4.drew _).mono (Nat.le_refl _))
    have q5 : Blk OT W4.heap.size (obC X).toArray W5 := by rw [← hal5, hXc]; exact Blk.made W4.drew
    have hW5 := hW4.bel b5
    have bw5 : Below w.heap.size w W5 := (b3.trans (b4.mono b3.size)).trans (b5.mono (Nat.le_trans b3.size b4.size))
    have hB5 : B ≤ W5.heap.size := Nat.le_trans HB.out bw5.size
    obtain ⟨v6, w6, hrun6, hO6, hg6⟩ := app_o (x := X) hW5.row q5 (by rw [hX]; rfl) (by rw [hX]; rfl) (by rw [HM.out]; omega) hB5
    obtain ⟨a6, c6, rfl⟩ := hO6.form
    obtain ⟨l6, hl6⟩ : ∃ l6, (vl ++ [X]).length = l6 := ⟨_, rfl⟩
    rw [hl6] at hrun6 hO6
    clear hl6
    have T6 : Tf B (fun _ => False) W5 w6 := grown_tf hg6 hW5.row
    have q6 := blk_grown hW5.blk hg6 hW5.row tyne.1.symm
    have c61 : w6.cell? ⟨T, 1, none⟩ = some (.slice la m lc) := q6.c 1 _ rfl
    have fz6 : w6.frozen? ⟨T, 1, none⟩ = false := q6.fz 1
    have qf := q6.set_ 1 (.slice a6 l6 c6) _ rfl
    have TS : Tf B (fun _ => False) w6 (w6.setCell ⟨T, 1, none⟩ (.slice a6 l6 c6)) := (Tf.refl B _ w6).set_ q6 HW.out.ge (.inl rfl) 1 (.slice a6 l6 c6)
    have OF := own_set hO6 q6 (show OT ≠ TT from tyne.1.symm) 1 (.slice a6 l6 c6)
    have T5 : Tf B (fun _ => False) w W5 := Tf.of bw5
    have TF := (T5.trans T6).trans TS
    have T3 : Tf B (fun _ => False) w3 (w6.setCell ⟨T, 1, none⟩ (.slice a6 l6 c6)) := ((Tf.of (b4.trans (b5.mono b4.size))).trans T6).trans TS
    have hKw : ∀ x ∈ vl, OwnU B (w6.setCell ⟨T, 1, none⟩ (.slice a6 l6 c6)) x.2.1 x.1.words ∧ OwnY B (w6.setCell ⟨T, 1, none⟩ (.slice a6 l6 c6)) x.2.2 x.1.bytes := fun x hx =>
      ⟨TF.own (HW.out.rds x hx).1 tyne.2.1 tyne.2.2.1 (fun _ _ h => h), TF.own (HW.out.rds x hx).2 tyne.2.2.2.1 tyne.2.2.2.2.1 (fun _ _ h => h)⟩
    have hXo : X.1 = addO vl 2 ws bs := by rw [hX]; unfold addO; rw [HE.out]; first | rw [if_pos rfl, HBN.out] | rw [if_neg (fun h => by rw [h] at hk2; exact absurd hk2 (by decide)), HWN.out]
    have HR : Hid (Tw B T sb (w6.setCell ⟨T, 1, none⟩ (.slice a6 l6 c6)) (.slice a6 l6 c6) (vl ++ [(addO vl 2 ws bs, .slice wa wn wc, .slice ca sz cc)]) root ∧ Tf B (fun _ => False) w (w6.setCell ⟨T, 1, none⟩ (.slice a6 l6 c6))) := Lib.hid (by
      refine ⟨⟨HW.out.ge, qf, ?_, fun x hx => ?_⟩, TF⟩
      · rw [← hXo, show (X.1, Value.slice wa wn wc, Value.slice ca sz cc) = X by rw [hX]]
        exact OF
      · rcases List.mem_append.1 hx with hx | hx
        · exact hKw x hx
        · obtain rfl := List.mem_singleton.1 hx
          exact ⟨TF.own HWS.out tyne.2.1 tyne.2.2.1 (fun _ _ h => h), own_mono (T3.own hO3 tyne.2.2.2.1 tyne.2.2.2.2.1 (fun _ _ h => h)) (Nat.le_trans HB.out HB2.out.size)⟩)
    have HRun := Lib.hid hrun6
    have HS := Lib.hid (show ∀ v, Below W4.heap.size W4 v → (v.cell? ⟨T, 1, none⟩ = some (.slice la m lc) ∧ v.cell? ⟨w3.heap.size, 0, none⟩ = some (.int .i64 (E : Int)) ∧ v.cell? ⟨w3.heap.size, 1, none⟩ = some (.int .u64 4) ∧ v.cell? ⟨w3.heap.size, 2, none⟩ = some (.int .i64 2) ∧ v.cell? ⟨w3.heap.size, 3, none⟩ = some (.int .i64 (sz : Int)) ∧
        v.cell? ⟨w3.heap.size, 4, none⟩ = some (.int .u32 0) ∧ v.cell? ⟨w3.heap.size, 5, none⟩ = some (.bool false) ∧ v.cell? ⟨w3.heap.size, 6, none⟩ = some (.slice wa wn wc) ∧ v.cell? ⟨w3.heap.size, 7, none⟩ = some (.slice ca sz cc)) from fun v hb => by
      have q := qO.below hb qO.lt
      exact ⟨(hW4.bel hb).blk.c 1 _ rfl, q.c 0 _ rfl, q.c 1 _ rfl, q.c 2 _ rfl, q.c 3 _ rfl, q.c 4 _ rfl, q.c 5 _ rfl, q.c 6 _ rfl, q.c 7 _ rfl⟩)
    have HB5 := Lib.hid b5
    have h26 : Blk OT w3.heap.size #[.int .i64 (E : Int), .int .u64 4, .int .i64 2, .int .i64 (sz : Int), .int .u32 0, .bool false, .slice wa wn wc, .slice ca sz cc] w6 := (hg6.block _ (qO.below b5 qO.lt).lt (fun e => by
        have := (World.ownsRow.lt HW.out.row _ e.symm).2
        have := b3.size
        omega)).trans (qO.below b5 qO.lt)
    have HS6 := Lib.hid (show w6.cell? ⟨T, 1, none⟩ = some (.slice la m lc) ∧ w6.cell? ⟨w3.heap.size, 0, none⟩ = some (.int .i64 (E : Int)) ∧ w6.cell? ⟨w3.heap.size, 1, none⟩ = some (.int .u64 4) ∧ w6.cell? ⟨w3.heap.size, 2, none⟩ = some (.int .i64 2) ∧ w6.cell? ⟨w3.heap.size, 3, none⟩ = some (.int .i64 (sz : Int)) ∧
        w6.cell? ⟨w3.heap.size, 4, none⟩ = some (.int .u32 0) ∧ w6.cell? ⟨w3.heap.size, 5, none⟩ = some (.bool false) ∧ w6.cell? ⟨w3.heap.size, 6, none⟩ = some (.slice wa wn wc) ∧ w6.cell? ⟨w3.heap.size, 7, none⟩ = some (.slice ca sz cc) from ⟨c61, h26.c 0 _ rfl, h26.c 1 _ rfl, h26.c 2 _ rfl, h26.c 3 _ rfl, h26.c 4 _ rfl, h26.c 5 _ rfl, h26.c 6 _ rfl, h26.c 7 _ rfl⟩)
    have o0 : (w6.setCell ⟨T, 1, none⟩ (.slice a6 l6 c6)).cell? ⟨w3.heap.size, 0, none⟩ = some (.int .i64 (E : Int)) := by
      exact (blk_set h26 q6 tyne.1.symm 1 (.slice a6 l6 c6)).c 0 _ rfl
    clear hX hXc hO3 hb3 b4 qO b3 hW4 b5 q5 hW5 bw5 hB5 hrun6 hO6 hg6 T6 q6 qf TS OF T5 TF T3 hKw hXo h26
    go_wp2_with fail
    refine wp_region_noPanic ?_
    refine Hd.start (fun v => v.cell? ⟨T, 1, none⟩ = some (.slice la m lc) ∧ v.cell? ⟨w3.heap.size, 0, none⟩ = some (.int .i64 (E : Int)) ∧ v.cell? ⟨w3.heap.size, 1, none⟩ = some (.int .u64 4) ∧ v.cell? ⟨w3.heap.size, 2, none⟩ = some (.int .i64 2) ∧ v.cell? ⟨w3.heap.size, 3, none⟩ = some (.int .i64 (sz : Int)) ∧ v.cell? ⟨w3.heap.size, 4, none⟩ = some (.int .u32 0) ∧ v.cell? ⟨w3.heap.size, 5, none⟩ = some (.bool false) ∧ v.cell? ⟨w3.heap.size, 6, none⟩ = some (.slice wa wn wc) ∧ v.cell? ⟨w3.heap.size, 7, none⟩ = some (.slice ca sz cc)) (by kernel_rfl) (HS.out _ (below_drewN W4 1)) (fun hH0 => ?_)
    refine Hd.tk 0 9 hH0 ?_
    refine Hd.tk 1 2 hH0 ?_
    refine Hd.tk 2 3 hH0 ?_
    refine Hd.tk 3 4 hH0 ?_
    refine Hd.tk 4 5 hH0 ?_
    refine Hd.tk 5 8 hH0 ?_
    refine Hd.tk 6 7 hH0 ?_
    refine Hd.on 7 (fun K hK => ?_)
    go_simp
    refine hK.out _ _ (HS.out _ HB5.out) (fun hH1 => ?_)
    clear hK K
    try simp only [Act.put, List.setIfInBounds_toArray, List.set_cons_zero, List.set_cons_succ]
    refine Hd.on 8 (fun K hK => ?_)
    refine step_app rfl _ _ _ rfl _ _ _ _ rfl rfl HRun.out ?_
    refine hK.out _ _ HS6.out (fun hH2 => ?_)
    clear hK K
    try simp only [Act.put, List.setIfInBounds_toArray, List.set_cons_zero, List.set_cons_succ]
    refine Hd.tk 9 10 hH2 ?_
    refine Hd.tk 10 11 hH2 ?_
    refine Hd.tk 11 12 hH2 ?_
    refine Hd.la 12 (fun K hK => ?_)
    go_simp
    refine hK.out _ _ ?_
    clear hK K
    try simp only [Act.put, List.setIfInBounds_toArray, List.set_cons_zero, List.set_cons_succ]
    simp only [NoPanic]
    go_wp2_with fail
    go_ret
    exact ⟨_, _, ret1 (vint (by rw [HE.out]; omega)), HR.out⟩
  · have hszz : sz = wn := by rw [← hsz2, if_neg (fun h => by rw [h] at hk2; exact absurd hk2 (by decide))]
    subst hszz
    clear hsz2
    go_enter Try.func39, Try.ntmps39
    go_wp2_with fail
    refine (HU.out _ HW.out.obs).mono ?_; rintro e w2 ⟨rfl, hb2⟩
    have HC2 := Lib.hid (HC.out w2 (HBS.out.below hb2))
    have HB2 := Lib.hid hb2
    clear hb2
    go_wp2_with fail
    refine HC2.out.mono ?_; rintro e w3 ⟨v3, rfl, hO3, hb3⟩
    obtain ⟨ca, cc, rfl⟩ := hO3.form
    rw [HBN.out] at hO3 ⊢
    obtain ⟨X, hX⟩ : ∃ X : OV, X = ((⟨E, hdL 4 kind sz, ws, bs⟩ : Ob), .slice wa sz wc, .slice ca bn cc) := ⟨_, rfl⟩
    have hXc : obC X = [.int .i64 (E : Int), .int .u64 4, .int .i64 (kind : Int), .int .i64 (sz : Int), .int .u32 0, .bool false, .slice wa sz wc, .slice ca bn cc] := by rw [hX]; rfl
    obtain ⟨W4, hal4⟩ : ∃ W4, w3.alloc (.cells #[.int .i64 (E : Int), .int .u64 4, .int .i64 (kind : Int), .int .i64 (sz : Int), .int .u32 0, .bool false, .slice wa sz wc, .slice ca bn cc] OT) = W4 := ⟨_, rfl⟩
    have b4 : Below w3.heap.size w3 W4 := by rw [← hal4]; exact alloc_bel _ _
    have qO : Blk OT w3.heap.size #[.int .i64 (E : Int), .int .u64 4, .int .i64 (kind : Int), .int .i64 (sz : Int), .int .u32 0, .bool false, .slice wa sz wc, .slice ca bn cc] W4 := by rw [← hal4]; exact Blk.made _
    have b3 : Below w.heap.size w w3 := HB2.out.trans (hb3.mono HB2.out.size)
    have hW4 := (HW.out.bel b3).bel b4
    obtain ⟨W5, hal5⟩ : ∃ W5, W4.drew.alloc (.cells #[.int .i64 (E : Int), .int .u64 4, .int .i64 (kind : Int), .int .i64 (sz : Int), .int .u32 0, .bool false, .slice wa sz wc, .slice ca bn cc] OT) = W5 := ⟨_, rfl⟩
    have b5 : Below W4.heap.size W4 W5 := by rw [← hal5]; exact (below_drewN W4 1).trans ((alloc_bel W4.drew _).mono (Nat.le_refl _))
    have q5 : Blk OT W4.heap.size (obC X).toArray W5 := by rw [← hal5, hXc]; exact Blk.made W4.drew
    have hW5 := hW4.bel b5
    have bw5 : Below w.heap.size w W5 := (b3.trans (b4.mono b3.size)).trans (b5.mono (Nat.le_trans b3.size b4.size))
    have hB5 : B ≤ W5.heap.size := Nat.le_trans HB.out bw5.size
    obtain ⟨v6, w6, hrun6, hO6, hg6⟩ := app_o (x := X) hW5.row q5 (by rw [hX]; rfl) (by rw [hX]; rfl) (by rw [HM.out]; omega) hB5
    obtain ⟨a6, c6, rfl⟩ := hO6.form
    obtain ⟨l6, hl6⟩ : ∃ l6, (vl ++ [X]).length = l6 := ⟨_, rfl⟩
    rw [hl6] at hrun6 hO6
    clear hl6
    have T6 : Tf B (fun _ => False) W5 w6 := grown_tf hg6 hW5.row
    have q6 := blk_grown hW5.blk hg6 hW5.row tyne.1.symm
    have c61 : w6.cell? ⟨T, 1, none⟩ = some (.slice la m lc) := q6.c 1 _ rfl
    have fz6 : w6.frozen? ⟨T, 1, none⟩ = false := q6.fz 1
    have qf := q6.set_ 1 (.slice a6 l6 c6) _ rfl
    have TS : Tf B (fun _ => False) w6 (w6.setCell ⟨T, 1, none⟩ (.slice a6 l6 c6)) := (Tf.refl B _ w6).set_ q6 HW.out.ge (.inl rfl) 1 (.slice a6 l6 c6)
    have OF := own_set hO6 q6 (show OT ≠ TT from tyne.1.symm) 1 (.slice a6 l6 c6)
    have T5 : Tf B (fun _ => False) w W5 := Tf.of bw5
    have TF := (T5.trans T6).trans TS
    have T3 : Tf B (fun _ => False) w3 (w6.setCell ⟨T, 1, none⟩ (.slice a6 l6 c6)) := ((Tf.of (b4.trans (b5.mono b4.size))).trans T6).trans TS
    have hKw : ∀ x ∈ vl, OwnU B (w6.setCell ⟨T, 1, none⟩ (.slice a6 l6 c6)) x.2.1 x.1.words ∧ OwnY B (w6.setCell ⟨T, 1, none⟩ (.slice a6 l6 c6)) x.2.2 x.1.bytes := fun x hx =>
      ⟨TF.own (HW.out.rds x hx).1 tyne.2.1 tyne.2.2.1 (fun _ _ h => h), TF.own (HW.out.rds x hx).2 tyne.2.2.2.1 tyne.2.2.2.2.1 (fun _ _ h => h)⟩
    have hXo : X.1 = addO vl kind ws bs := by rw [hX]; unfold addO; rw [HE.out]; first | rw [if_pos rfl, HBN.out] | rw [if_neg (fun h => by rw [h] at hk2; exact absurd hk2 (by decide)), HWN.out]
    have HR : Hid (Tw B T sb (w6.setCell ⟨T, 1, none⟩ (.slice a6 l6 c6)) (.slice a6 l6 c6) (vl ++ [(addO vl kind ws bs, .slice wa sz wc, .slice ca bn cc)]) root ∧ Tf B (fun _ => False) w (w6.setCell ⟨T, 1, none⟩ (.slice a6 l6 c6))) := Lib.hid (by
      refine ⟨⟨HW.out.ge, qf, ?_, fun x hx => ?_⟩, TF⟩
      · rw [← hXo, show (X.1, Value.slice wa sz wc, Value.slice ca bn cc) = X by rw [hX]]
        exact OF
      · rcases List.mem_append.1 hx with hx | hx
        · exact hKw x hx
        · obtain rfl := List.mem_singleton.1 hx
          exact ⟨TF.own HWS.out tyne.2.1 tyne.2.2.1 (fun _ _ h => h), own_mono (T3.own hO3 tyne.2.2.2.1 tyne.2.2.2.2.1 (fun _ _ h => h)) (Nat.le_trans HB.out HB2.out.size)⟩)
    have HRun := Lib.hid hrun6
    have HS := Lib.hid (show ∀ v, Below W4.heap.size W4 v → (v.cell? ⟨T, 1, none⟩ = some (.slice la m lc) ∧ v.cell? ⟨w3.heap.size, 0, none⟩ = some (.int .i64 (E : Int)) ∧ v.cell? ⟨w3.heap.size, 1, none⟩ = some (.int .u64 4) ∧ v.cell? ⟨w3.heap.size, 2, none⟩ = some (.int .i64 (kind : Int)) ∧ v.cell? ⟨w3.heap.size, 3, none⟩ = some (.int .i64 (sz : Int)) ∧
        v.cell? ⟨w3.heap.size, 4, none⟩ = some (.int .u32 0) ∧ v.cell? ⟨w3.heap.size, 5, none⟩ = some (.bool false) ∧ v.cell? ⟨w3.heap.size, 6, none⟩ = some (.slice wa sz wc) ∧ v.cell? ⟨w3.heap.size, 7, none⟩ = some (.slice ca bn cc)) from fun v hb => by
      have q := qO.below hb qO.lt
      exact ⟨(hW4.bel hb).blk.c 1 _ rfl, q.c 0 _ rfl, q.c 1 _ rfl, q.c 2 _ rfl, q.c 3 _ rfl, q.c 4 _ rfl, q.c 5 _ rfl, q.c 6 _ rfl, q.c 7 _ rfl⟩)
    have HB5 := Lib.hid b5
    have h26 : Blk OT w3.heap.size #[.int .i64 (E : Int), .int .u64 4, .int .i64 (kind : Int), .int .i64 (sz : Int), .int .u32 0, .bool false, .slice wa sz wc, .slice ca bn cc] w6 := (hg6.block _ (qO.below b5 qO.lt).lt (fun e => by
        have := (World.ownsRow.lt HW.out.row _ e.symm).2
        have := b3.size
        omega)).trans (qO.below b5 qO.lt)
    have HS6 := Lib.hid (show w6.cell? ⟨T, 1, none⟩ = some (.slice la m lc) ∧ w6.cell? ⟨w3.heap.size, 0, none⟩ = some (.int .i64 (E : Int)) ∧ w6.cell? ⟨w3.heap.size, 1, none⟩ = some (.int .u64 4) ∧ w6.cell? ⟨w3.heap.size, 2, none⟩ = some (.int .i64 (kind : Int)) ∧ w6.cell? ⟨w3.heap.size, 3, none⟩ = some (.int .i64 (sz : Int)) ∧
        w6.cell? ⟨w3.heap.size, 4, none⟩ = some (.int .u32 0) ∧ w6.cell? ⟨w3.heap.size, 5, none⟩ = some (.bool false) ∧ w6.cell? ⟨w3.heap.size, 6, none⟩ = some (.slice wa sz wc) ∧ w6.cell? ⟨w3.heap.size, 7, none⟩ = some (.slice ca bn cc) from ⟨c61, h26.c 0 _ rfl, h26.c 1 _ rfl, h26.c 2 _ rfl, h26.c 3 _ rfl, h26.c 4 _ rfl, h26.c 5 _ rfl, h26.c 6 _ rfl, h26.c 7 _ rfl⟩)
    have o0 : (w6.setCell ⟨T, 1, none⟩ (.slice a6 l6 c6)).cell? ⟨w3.heap.size, 0, none⟩ = some (.int .i64 (E : Int)) := by
      exact (blk_set h26 q6 tyne.1.symm 1 (.slice a6 l6 c6)).c 0 _ rfl
    clear hX hXc hO3 hb3 b4 qO b3 hW4 b5 q5 hW5 bw5 hB5 hrun6 hO6 hg6 T6 q6 qf TS OF T5 TF T3 hKw hXo h26
    go_wp2_with fail
    refine wp_region_noPanic ?_
    refine Hd.start (fun v => v.cell? ⟨T, 1, none⟩ = some (.slice la m lc) ∧ v.cell? ⟨w3.heap.size, 0, none⟩ = some (.int .i64 (E : Int)) ∧ v.cell? ⟨w3.heap.size, 1, none⟩ = some (.int .u64 4) ∧ v.cell? ⟨w3.heap.size, 2, none⟩ = some (.int .i64 (kind : Int)) ∧ v.cell? ⟨w3.heap.size, 3, none⟩ = some (.int .i64 (sz : Int)) ∧ v.cell? ⟨w3.heap.size, 4, none⟩ = some (.int .u32 0) ∧ v.cell? ⟨w3.heap.size, 5, none⟩ = some (.bool false) ∧ v.cell? ⟨w3.heap.size, 6, none⟩ = some (.slice wa sz wc) ∧ v.cell? ⟨w3.heap.size, 7, none⟩ = some (.slice ca bn cc)) (by kernel_rfl) (HS.out _ (below_drewN W4 1)) (fun hH0 => ?_)
    refine Hd.tk 0 9 hH0 ?_
    refine Hd.tk 1 2 hH0 ?_
    refine Hd.tk 2 3 hH0 ?_
    refine Hd.tk 3 4 hH0 ?_
    refine Hd.tk 4 5 hH0 ?_
    refine Hd.tk 5 8 hH0 ?_
    refine Hd.tk 6 7 hH0 ?_
    refine Hd.on 7 (fun K hK => ?_)
    go_simp
    refine hK.out _ _ (HS.out _ HB5.out) (fun hH1 => ?_)
    clear hK K
    try simp only [Act.put, List.setIfInBounds_toArray, List.set_cons_zero, List.set_cons_succ]
    refine Hd.on 8 (fun K hK => ?_)
    refine step_app rfl _ _ _ rfl _ _ _ _ rfl rfl HRun.out ?_
    refine hK.out _ _ HS6.out (fun hH2 => ?_)
    clear hK K
    try simp only [Act.put, List.setIfInBounds_toArray, List.set_cons_zero, List.set_cons_succ]
    refine Hd.tk 9 10 hH2 ?_
    refine Hd.tk 10 11 hH2 ?_
    refine Hd.tk 11 12 hH2 ?_
    refine Hd.la 12 (fun K hK => ?_)
    go_simp
    refine hK.out _ _ ?_
    clear hK K
    try simp only [Act.put, List.setIfInBounds_toArray, List.set_cons_zero, List.set_cons_succ]
    simp only [NoPanic]
    go_wp2_with fail
    go_ret
    exact ⟨_, _, ret1 (vint (by rw [HE.out]; omega)), HR.out⟩
end Hp
end Go.Proofs.Ytojblndlchcjeaa
