/- Package tree, the walk: Print (printed by gen_trbb.py). -/
import Derived.Test.YtbdgoimbddlcoaaGreatDoorTrBa
set_option linter.unusedVariables false
namespace Go.Proofs.YtbdgoimbddlcoaaGreatDoor
open Go.RowKit
namespace Tr
open Bs Sm
/-- What may be asked of a method that is one. -/
theorem good_body {m : Mt} (hmild : Mild m.body) (h : checkM m = 0) : (∀ y ∈ m.body, Gd y) ∧ Lx.arityL m.name = (m.params.length : Int) ∧ 0 ≤ m.prim ∧ m.prim ≤ 999 ∧ m.params.all isName = true ∧ m.temps.all isName = true := by
 unfold checkM at h
 split at h
 · cases h
 · rename_i h1
   split at h
   · cases h
   · rename_i h2
     have h1 : headB m = true := by simpa using h1
     have h2 : fitsK false false m.body = true := by simpa using h2
     unfold headB at h1
     simp only [Bool.and_eq_true, decide_eq_true_eq] at h1
     obtain ⟨⟨⟨⟨⟨a1, a2⟩, a3⟩, a4⟩, a5⟩, _⟩ := h1
     have hb : (allL m.body).any bigB = false := by
      unfold sizedL at h
      cases hb : (allL m.body).any bigB with
      | false => rfl
      | true => rw [hb] at h; simp at h
     have hnice : ∀ y ∈ allL m.body, Nice y := fun y hy => ⟨hmild.fair y hy, by
      have := List.any_eq_false.1 hb y hy
      simpa using this⟩
     exact ⟨fun y hy => ⟨fitsK_mem h2 hy, hnice y (mem_all hy), fun z hz => hnice z (all_kids hy hz)⟩, a1, a2, a3, a4, a5⟩
theorem joinF_names (l : List Bytes) (h : l.all isName = true) : (joinF [32] (fun i => l.getD i []) l.length).length ≤ l.length * 65 := by
 have h2 := join_len [32] (fun i => l.getD i []) 64 (fun _ => 0) l.length (fun i hi => by
  rw [List.getD_eq_getElem?_getD, List.getElem?_eq_getElem hi]
  have := isName_len (List.all_eq_true.1 h _ (List.getElem_mem hi))
  simpa using this)
 have s0 : ∀ n, ((List.range n).map (fun _ => 0)).sum = 0 := by
  intro n
  induction n with
  | zero => rfl
  | succ n ih => rw [List.range_succ, List.map_append, List.sum_append_nat, ih]; rfl
 rw [s0] at h2
 exact h2
theorem pat_len {m : Mt} (ha : Lx.arityL m.name = (m.params.length : Int)) (hp : m.params.all isName = true) : (patT m).length ≤ 20000 := by
 have h0 : 0 ≤ Lx.arityL m.name := by rw [ha]; omega
 obtain ⟨_, h64, _⟩ := ar_cases h0
 have hg : ∀ i, (m.params.getD i []).length ≤ 64 := fun i => by
  rw [List.getD_eq_getElem?_getD]
  cases hi : m.params[i]? with
  | none => simp
  | some s => simpa using isName_len (List.all_eq_true.1 hp s (List.mem_of_getElem? hi))
 unfold patT
 rcases rank_cases h0 with ⟨r, _⟩ | ⟨r, _⟩ | ⟨r, _, hpp, hpl⟩
 · rw [r]; simp; omega
 · rw [r]; have := hg 0; simp at this ⊢; omega
 · rw [r]
   simp only [show ((1 : Int) = 3) = False by decide, show ((1 : Int) = 2) = False by decide, if_false]
   unfold spreadT
   have h4 := join_len [32] (fun i => (partsL m.name).getD i [] ++ ([58, 32] ++ m.params.getD i [])) 130 (fun _ => 0) (partsL m.name).length (fun i hi => by
    have hm : (partsL m.name).getD i [] ∈ partsL m.name := by
     rw [List.getD_eq_getElem?_getD, List.getElem?_eq_getElem hi]
     exact List.getElem_mem hi
    have hm2 : (partsL m.name).getD i [] ∈ kwA [] m.name := by rw [hpp] at hm ⊢; exact hm
    have hs := kwA_size m.name [] _ hm2
    have e0 : ([] : Bytes).length = 0 := rfl
    have := hg i
    simp only [List.length_append, List.length_cons, List.length_nil]
    omega)
   have s0 : ∀ n, ((List.range n).map (fun _ => 0)).sum = 0 := by
    intro n
    induction n with
    | zero => rfl
    | succ n ih => rw [List.range_succ, List.map_append, List.sum_append_nat, ih]; rfl
   rw [s0] at h4
   have h6 : (partsL m.name).length ≤ 64 := by
    rw [hpp, kwA_len]
    have := List.count_le_length (a := (58 : UInt8)) (l := m.name)
    omega
   have h7 : (partsL m.name).length * (([32] : Bytes).length + 130) ≤ 64 * 131 := Nat.mul_le_mul h6 (Nat.le_refl _)
   have e : joinF [32] (fun i => (partsL m.name).getD i [] ++ ([58, 32] ++ (fun i => m.params.getD i []) i)) (partsL m.name).length = joinF [32] (fun i => (partsL m.name).getD i [] ++ ([58, 32] ++ m.params.getD i [])) (partsL m.name).length := rfl
   rw [e]
   omega
theorem pat_ne {m : Mt} (ha : 0 ≤ Lx.arityL m.name) : patT m ≠ [] := by
 obtain ⟨h1, _, _⟩ := ar_cases ha
 unfold patT
 rcases rank_cases ha with ⟨r, _⟩ | ⟨r, _⟩ | ⟨r, h0, hpp, hpl⟩
 · rw [r]; simpa using h1
 · rw [r]; simp
 · rw [r]
   simp only [show ((1 : Int) = 3) = False by decide, show ((1 : Int) = 2) = False by decide, if_false]
   unfold spreadT
   obtain ⟨k, hk⟩ : ∃ k, (partsL m.name).length = k + 1 := ⟨(partsL m.name).length - 1, by omega⟩
   rw [hk, joinF_succ]
   simp
theorem stats_len {l : List Nd} (h : ∀ y ∈ l, Gd y) (hc : cntL l ≤ 1000000) : (statsT txt l).length ≤ 200000000000 := by
 have h1 := Gd.all h
 have h2 := sum_get l l.length
 have h3 := join_len [46, 32] (fun i => (txt (l.getD i nd0)).1) 0 (fun i => tlen (l.getD i nd0)) l.length (fun i _ => by unfold tlen; omega)
 have h4 := len_le_cnt l
 unfold statsT
 simp only [List.length_cons, List.length_nil] at h3
 omega
set_option maxRecDepth 100000 in
set_option maxHeartbeats 4000000 in
theorem Print_any (m : Mt) (pv tv bv : Value) (hmild : Mild m.body) (htl : m.temps.length ≤ 100000) (w : World) (hm : MtAt (fun _ => True) w m pv tv bv) (hpow : Pow10 w) (hmax : MaxV w) (herr : ErrVar w) :
  Calls Tryz.prog 12 #[mtV m pv tv bv] w (fun e w' => Below w.heap.size w w' ∧ e = .returned (.tuple #[.string ⟨(if checkM m = 0 then printT m else []).toArray⟩, .int .i64 (checkM m)])) := by
 have hc : cntL m.body ≤ 100000 := by have := hmild.few; omega
 have hin : ∀ x ∈ allL m.body, InI x := fun x hx => (hmild.fair x hx).2.2
 have HCK := Lib.hid (fun (w' : World) (h : Below w.heap.size w w') => Check_any m pv tv bv hc hin w' (hm.bel h))
 obtain ⟨pa, pc, rfl, hpc, hpm⟩ := hm.params.form
 obtain ⟨ta, tc, rfl, htc, htm⟩ := hm.temps.form
 obtain ⟨ba, bc, rfl, hbc, hbm⟩ := hm.body.form
 unfold maxLen at hpm htm hbm
 obtain ⟨pl, hpl⟩ : ∃ n, m.params.length = n := ⟨_, rfl⟩
 obtain ⟨tl, htl2⟩ : ∃ n, m.temps.length = n := ⟨_, rfl⟩
 obtain ⟨bl, hbl⟩ : ∃ n, m.body.length = n := ⟨_, rfl⟩
 rw [hpl, htl2, hbl] at hm HCK ⊢
 rw [hpl] at hpc
 rw [htl2] at htc htl
 rw [hbl] at hbc
 have HX := Lib.hid (alloc_bel w (.cells #[.string ⟨m.name.toArray⟩, .slice pa pl pc, .slice ta tl tc, .int .i64 m.prim, .slice ba bl bc, .int .i64 m.at_] 28))
 have HB1 := Lib.hid (Blk.made (T := 28) (cs := #[.string ⟨m.name.toArray⟩, .slice pa pl pc, .slice ta tl tc, .int .i64 m.prim, .slice ba bl bc, .int .i64 m.at_]) w)
 have HCK1 := Lib.hid (HCK.out _ HX.out)
 obtain ⟨ck, hck⟩ : ∃ c, checkM m = c := ⟨_, rfl⟩
 rw [hck] at HCK1 ⊢
 unfold mtV at HCK1 ⊢
 by_cases h0 : ck = 0
 · subst h0
   rw [if_pos rfl]
   obtain ⟨hgd, ha, hp0, hp1, hpn, htn⟩ := good_body hmild hck
   have hsl := stats_len hgd (by omega)
   have hpt := pat_len ha hpn
   have hjl := joinF_names m.temps htn
   have hil : (Lib.itoa m.prim).length ≤ 21 := by
    unfold Lib.itoa
    split
    · have := dec_len 18 m.prim.natAbs (by omega)
      simp; omega
    · have := dec_len 18 m.prim.toNat (by omega)
      omega
   obtain ⟨A, hA⟩ : ∃ A, printT m = A := ⟨_, rfl⟩
   rw [hA]
   obtain ⟨J, hJ⟩ : ∃ j, joinF [32] (fun i => m.temps.getD i []) m.temps.length = j := ⟨_, rfl⟩
   obtain ⟨PT, hPT⟩ : ∃ p, (if m.prim = 0 then [] else [32, 60, 112, 114, 105, 109, 105, 116, 105, 118, 101, 58, 32] ++ (Lib.itoa m.prim ++ [62])) = p := ⟨_, rfl⟩
   obtain ⟨TT, hTT⟩ : ∃ p, (if tl = 0 then [] else [32, 124, 32] ++ (J ++ [32, 124])) = p := ⟨_, rfl⟩
   obtain ⟨BT_, hBT⟩ : ∃ p, (if bl = 0 then ([] : Bytes) else [32]) = p := ⟨_, rfl⟩
   obtain ⟨S, hS⟩ : ∃ p, statsT txt m.body = p := ⟨_, rfl⟩
   obtain ⟨Q, hQ⟩ : ∃ p, patT m = p := ⟨_, rfl⟩
   have hAA : Q ++ (PT ++ (TT ++ (BT_ ++ S))) = A := by
    rw [← hA, ← hQ, ← hPT, ← hTT, ← hBT, ← hS, ← hJ]
    unfold printT patT
    have e1 : (tl = 0) = (m.temps = []) := by rw [← htl2, List.length_eq_zero_iff]
    have e2 : (bl = 0) = (m.body = []) := by rw [← hbl, List.length_eq_zero_iff]
    simp only [e1, e2]
   have hpts : PT.length ≤ 100 := by
    rw [← hPT]
    split
    · simp
    · simp only [List.length_append, List.length_cons, List.length_nil]; omega
   have htts : TT.length ≤ 10000000 := by
    rw [← hTT]
    split
    · simp
    · simp only [List.length_append, List.length_cons, List.length_nil]; rw [hJ, htl2] at hjl; omega
   have hbts : BT_.length ≤ 1 := by
    rw [← hBT]
    split <;> simp
   rw [hS] at hsl
   rw [hQ] at hpt
   have HLEN : Hid (Q.length + PT.length + TT.length + BT_.length + S.length ≤ 140737488355328) := Lib.hid (by omega)
   have hQne : A ≠ [] := by
    rw [← hAA, ← hQ]
    have := pat_ne (m := m) (by rw [ha]; omega)
    simp [this]
   have hne := hQne
   rw [hJ, htl2] at hjl
   have HJ0 : Hid (∀ w', Rd (fun _ => True) strV w' (.slice ta tl tc) m.temps → Calls Tryz.prog 43 #[.slice ta tl tc, .string ⟨#[32]⟩] w' (Back (.string ⟨J.toArray⟩) w')) := Lib.hid (fun w' h => by
    have h2 := Join_any ta tc m.temps w' (by rw [htl2]; exact h) (by rw [hJ]; omega) (by rw [htl2]; omega)
    rw [hJ, htl2] at h2
    exact h2)
   have HND := Lib.hid (fun (B b : Nat) (y : Nd) (hy : y ∈ m.body) => (hgd y hy).node (by have := cnt_mem hy; omega) B b)
   have HARI := Lib.hid ha
   have HPRI := Lib.hid (And.intro hp0 hp1)
   have HA := Lib.hid hAA
   have HPT := Lib.hid hPT
   have HTT := Lib.hid hTT
   have HBT := Lib.hid hBT
   have HSS := Lib.hid hS
   have HQQ := Lib.hid hQ
   have HM := Lib.hid hm
   have HPOW := Lib.hid hpow
   have HMAX := Lib.hid hmax
   have HERR := Lib.hid herr
   have HBL := Lib.hid hbl
   clear hA hJ hPT hTT hBT hS hQ hAA hQne hgd ha hp0 hp1 hpn htn hsl hpt hjl hil hpts htts hbts hpow hmax herr hck hm hmild hc hin HCK hpl htl2 hbl
   go_enter Tryz.func12, Tryz.ntmps12
   go_wp2_with fail
   refine HCK1.out.mono ?_; rintro e w1 ⟨rfl, hb1⟩
   have hbw := HX.out.trans (hb1.mono HX.out.size)
   have hk1 := HB1.out.below hb1 HB1.out.lt
   obtain ⟨B, hBB⟩ : ∃ B, w1.heap.size = B := ⟨_, rfl⟩
   have HBEL : Hid (Below w.heap.size w (w1.alloc (.cells #[.pointer none, .slice none 0 0] OT))) := Lib.hid (hbw.alloc hbw.size _)
   have HX2 := Lib.hid (alloc_bel w1 (.cells #[.pointer none, .slice none 0 0] OT))
   have hk2 := hk1.below HX2.out hk1.lt
   have HWB : Hid (w.heap.size ≤ B) := Lib.hid (by rw [← hBB]; exact hbw.size)
   have hnb : w.heap.size ≠ B := by rw [← hBB]; have := hk1.lt; omega
   have HM1 : Hid (MtAt (fun b => b < B) (w1.alloc (.cells #[.pointer none, .slice none 0 0] OT)) m (.slice pa pl pc) (.slice ta tl tc) (.slice ba bl bc)) := Lib.hid (((HM.out.bel hbw).mono (fun b _ hl => by rw [← hBB]; exact hl)).bel HX2.out)
   have HEN : Hid (Env B (w1.alloc (.cells #[.pointer none, .slice none 0 0] OT))) := Lib.hid ⟨w1, hBB, HPOW.out.below hbw, HMAX.out.below hbw, HERR.out.below hbw, by rw [← hBB]; exact HX2.out⟩
   have HIB : Hid (Lib.IsBuilder OT U8 B B (Lib.byteCells []) (w1.alloc (.cells #[.pointer none, .slice none 0 0] OT))) := Lib.hid (.inl ⟨Nat.le_refl _, .slice none 0 0, by rw [← hBB]; exact Blk.made w1, World.ownsRow_nil _ _ _ _, by intro h; cases h⟩)
   have HNUM : Hid (∀ w', Below B (w1.alloc (.cells #[.pointer none, .slice none 0 0] OT)) w' → Calls Tryz.prog 42 #[.int .i64 m.prim] w' (Back (.string ⟨(Lib.itoa m.prim).toArray⟩) w')) := Lib.hid (fun w' h => text_num m.prim (by have := HPRI.out; omega) (by have := HPRI.out; omega) w' (HEN.out.below h).pow)
   have HJ : Hid (∀ w', Below B (w1.alloc (.cells #[.pointer none, .slice none 0 0] OT)) w' → Calls Tryz.prog 43 #[.slice ta tl tc, .string ⟨#[32]⟩] w' (Back (.string ⟨J.toArray⟩) w')) := Lib.hid (fun w' h => HJ0.out w' ((HM1.out.temps.kp (Kp.lt h)).mono (fun _ _ _ => trivial)))
   have HSZ : Hid (B ≤ (w1.alloc (.cells #[.pointer none, .slice none 0 0] OT)).heap.size) := Lib.hid (by rw [← hBB]; simp)
   have HS : Hid (∀ (acc2 : Bytes) (w' : World), St B B acc2 (w1.alloc (.cells #[.pointer none, .slice none 0 0] OT)) w' → acc2.length + S.length ≤ 140737488355328 → Calls Tryz.prog 44 #[.pointer (some ⟨B, 0, none⟩), .slice ba bl bc, .string ⟨#[46, 32]⟩] w' (Wr B B acc2 S w')) := Lib.hid (fun acc2 w' h hl => by
    have h2 := stats_any (B := B) (b := B) (acc := acc2) (w := w') m.body [46, 32] _ (fun y hy => HND.out B B y hy) h.isb h.siz (h.env HEN.out) (h.tree HM1.out.body) (by rw [← HSS.out] at hl; exact hl)
    rw [← HSS.out]
    exact h2)
   have HPAT := Lib.hid (pattern_any (B := B) (b := B) (acc := []) HARI.out HIB.out HSZ.out HEN.out HM1.out (by have := HLEN.out; rw [HQQ.out]; simp; omega))
   rw [HQQ.out] at HPAT
   unfold mtV at HPAT
   have HBK := Lib.hid hk2
   obtain ⟨w3, hw3⟩ : ∃ w3, w1.alloc (.cells #[.pointer none, .slice none 0 0] OT) = w3 := ⟨_, rfl⟩
   have d0 := hk1.c 0 _ rfl
   have d1 := hk1.c 1 _ rfl
   have d2 := hk1.c 2 _ rfl
   have d3 := hk1.c 3 _ rfl
   have d4 := hk1.c 4 _ rfl
   have d5 := hk1.c 5 _ rfl
   have hkl := hk1.lt
   clear hb1 hbw hk1 hk2
   go_upto_region 5 with fail
   rw [hw3] at HBEL HM1 HEN HIB HNUM HJ HSZ HS HPAT HBK
   have c0 := HBK.out.c 0 _ rfl
   have c1 := HBK.out.c 1 _ rfl
   have c2 := HBK.out.c 2 _ rfl
   have c3 := HBK.out.c 3 _ rfl
   have c4 := HBK.out.c 4 _ rfl
   have c5 := HBK.out.c 5 _ rfl
   clear hw3 d0 d1 d2 d3 d4 d5 hkl HX2 hBB
   go_wp2_with fail
   refine HPAT.out.mono ?_; rintro e w4 hW4
   obtain rfl := hW4.1
   have HST4 := Lib.hid ((St.start HIB.out HSZ.out).step hW4)
   have HK4 := Lib.hid hW4.2.2.2
   clear hW4
   clear c0 c1 c2 c3 c4 c5
   have c0 := (HK4.out.blk HBK.out hnb (by decide)).c 0 _ rfl
   have c1 := (HK4.out.blk HBK.out hnb (by decide)).c 1 _ rfl
   have c2 := (HK4.out.blk HBK.out hnb (by decide)).c 2 _ rfl
   have c3 := (HK4.out.blk HBK.out hnb (by decide)).c 3 _ rfl
   have c4 := (HK4.out.blk HBK.out hnb (by decide)).c 4 _ rfl
   have c5 := (HK4.out.blk HBK.out hnb (by decide)).c 5 _ rfl
   by_cases hp : m.prim = 0
   · have bp : (m.prim == 0) = true := by rw [hp]; rfl
     have HP0 : Hid (PT = []) := Lib.hid (by rw [← HPT.out, if_pos hp])
     clear hp
     by_cases ht : tl = 0
     · have bt : decide (0 < tl) = false := decide_eq_false (by omega)
       have HT0 : Hid (TT = []) := Lib.hid (by rw [← HTT.out, if_pos ht])
       clear ht
       by_cases hz : bl = 0
       · have bz : decide (0 < bl) = false := decide_eq_false (by omega)
         have HB0 : Hid (BT_ = []) := Lib.hid (by rw [← HBT.out, if_pos hz])
         clear hz
         go_wp2_with fail
         refine (HS.out _ _ HST4.out (by have hq := congrArg List.length HB0.out; have hq1 := congrArg List.length HT0.out; have hq2 := congrArg List.length HP0.out; simp only [List.length_append, List.length_cons, List.length_nil] at hq hq1 hq2; have hL := HLEN.out; simp only [List.length_append, List.length_cons, List.length_nil] at hL ⊢; omega)).mono ?_; rintro e w5 hW5
         obtain rfl := hW5.1
         have HST5 := Lib.hid (HST4.out.step hW5)
         clear hW5 c0 c1 c2 c3 c4 c5
         have HFIN : Hid (Lib.IsBuilder OT U8 B B (Lib.byteCells A) w5) := Lib.hid (by
          have h := HST5.out.isb
          rw [← HA.out, HP0.out, HT0.out, HB0.out]
          simpa [List.append_assoc] using h)
         have HSTR := Lib.hid (string_any (T := OT) B B A w5 HFIN.out hne)
         have HBB := Lib.hid (HBEL.out.trans (HST5.out.bel.mono HWB.out))
         go_wp2_with fail
         refine HSTR.out.mono ?_; rintro e w6 ⟨rfl, hb⟩
         have HB9 := Lib.hid (HBB.out.trans (hb.mono HWB.out))
         clear hb
         go_wp2_with fail
         go_ret2
         exact ⟨HB9.out, by simp⟩
       · have bz : decide (0 < bl) = true := decide_eq_true (by omega)
         have HB0 : Hid (BT_ = [32]) := Lib.hid (by rw [← HBT.out, if_neg hz])
         clear hz
         go_wp2_with fail
         refine (put1 [32] HST4.out.isb (by have hq := congrArg List.length HB0.out; have hq1 := congrArg List.length HT0.out; have hq2 := congrArg List.length HP0.out; simp only [List.length_append, List.length_cons, List.length_nil] at hq hq1 hq2; have hL := HLEN.out; simp only [List.length_append, List.length_cons, List.length_nil] at hL ⊢; omega) HST4.out.siz).mono ?_; rintro e w5 hW5
         obtain rfl := hW5.1
         have HST5 := Lib.hid (HST4.out.step hW5)
         have HK5 := Lib.hid (HK4.out.trans hW5.2.2.2)
         clear hW5
         clear c0 c1 c2 c3 c4 c5
         have c0 := (HK5.out.blk HBK.out hnb (by decide)).c 0 _ rfl
         have c1 := (HK5.out.blk HBK.out hnb (by decide)).c 1 _ rfl
         have c2 := (HK5.out.blk HBK.out hnb (by decide)).c 2 _ rfl
         have c3 := (HK5.out.blk HBK.out hnb (by decide)).c 3 _ rfl
         have c4 := (HK5.out.blk HBK.out hnb (by decide)).c 4 _ rfl
         have c5 := (HK5.out.blk HBK.out hnb (by decide)).c 5 _ rfl
         go_wp2_with fail
         refine (HS.out _ _ HST5.out (by have hq := congrArg List.length HB0.out; have hq1 := congrArg List.length HT0.out; have hq2 := congrArg List.length HP0.out; simp only [List.length_append, List.length_cons, List.length_nil] at hq hq1 hq2; have hL := HLEN.out; simp only [List.length_append, List.length_cons, List.length_nil] at hL ⊢; omega)).mono ?_; rintro e w6 hW6
         obtain rfl := hW6.1
         have HST6 := Lib.hid (HST5.out.step hW6)
         clear hW6 c0 c1 c2 c3 c4 c5
         have HFIN : Hid (Lib.IsBuilder OT U8 B B (Lib.byteCells A) w6) := Lib.hid (by
          have h := HST6.out.isb
          rw [← HA.out, HP0.out, HT0.out, HB0.out]
          simpa [List.append_assoc] using h)
         have HSTR := Lib.hid (string_any (T := OT) B B A w6 HFIN.out hne)
         have HBB := Lib.hid (HBEL.out.trans (HST6.out.bel.mono HWB.out))
         go_wp2_with fail
         refine HSTR.out.mono ?_; rintro e w7 ⟨rfl, hb⟩
         have HB9 := Lib.hid (HBB.out.trans (hb.mono HWB.out))
         clear hb
         go_wp2_with fail
         go_ret2
         exact ⟨HB9.out, by simp⟩
     · have bt : decide (0 < tl) = true := decide_eq_true (by omega)
       have HT0 : Hid (TT = [32, 124, 32] ++ (J ++ [32, 124])) := Lib.hid (by rw [← HTT.out, if_neg ht])
       clear ht
       go_wp2_with fail
       refine (HJ.out _ HST4.out.bel).mono ?_; rintro e w5 ⟨rfl, hb⟩
       have HST5 := Lib.hid (HST4.out.go hb)
       have HK5 := Lib.hid (HK4.out.below hb)
       clear hb
       clear c0 c1 c2 c3 c4 c5
       have c0 := (HK5.out.blk HBK.out hnb (by decide)).c 0 _ rfl
       have c1 := (HK5.out.blk HBK.out hnb (by decide)).c 1 _ rfl
       have c2 := (HK5.out.blk HBK.out hnb (by decide)).c 2 _ rfl
       have c3 := (HK5.out.blk HBK.out hnb (by decide)).c 3 _ rfl
       have c4 := (HK5.out.blk HBK.out hnb (by decide)).c 4 _ rfl
       have c5 := (HK5.out.blk HBK.out hnb (by decide)).c 5 _ rfl
       go_wp2_with fail
       refine (put3 [32, 124, 32] J [32, 124] HST5.out.isb (by have hq := congrArg List.length HT0.out; have hq2 := congrArg List.length HP0.out; simp only [List.length_append, List.length_cons, List.length_nil] at hq hq2; have hL := HLEN.out; simp only [List.length_append, List.length_cons, List.length_nil] at hL ⊢; omega) HST5.out.siz).mono ?_; rintro e w6 hW6
       obtain rfl := hW6.1
       have HST6 := Lib.hid (HST5.out.step hW6)
       have HK6 := Lib.hid (HK5.out.trans hW6.2.2.2)
       clear hW6
       clear c0 c1 c2 c3 c4 c5
       have c0 := (HK6.out.blk HBK.out hnb (by decide)).c 0 _ rfl
       have c1 := (HK6.out.blk HBK.out hnb (by decide)).c 1 _ rfl
       have c2 := (HK6.out.blk HBK.out hnb (by decide)).c 2 _ rfl
       have c3 := (HK6.out.blk HBK.out hnb (by decide)).c 3 _ rfl
       have c4 := (HK6.out.blk HBK.out hnb (by decide)).c 4 _ rfl
       have c5 := (HK6.out.blk HBK.out hnb (by decide)).c 5 _ rfl
       by_cases hz : bl = 0
       · have bz : decide (0 < bl) = false := decide_eq_false (by omega)
         have HB0 : Hid (BT_ = []) := Lib.hid (by rw [← HBT.out, if_pos hz])
         clear hz
         go_wp2_with fail
         refine (HS.out _ _ HST6.out (by have hq := congrArg List.length HB0.out; have hq1 := congrArg List.length HT0.out; have hq2 := congrArg List.length HP0.out; simp only [List.length_append, List.length_cons, List.length_nil] at hq hq1 hq2; have hL := HLEN.out; simp only [List.length_append, List.length_cons, List.length_nil] at hL ⊢; omega)).mono ?_; rintro e w7 hW7
         obtain rfl := hW7.1
         have HST7 := Lib.hid (HST6.out.step hW7)
         clear hW7 c0 c1 c2 c3 c4 c5
         have HFIN : Hid (Lib.IsBuilder OT U8 B B (Lib.byteCells A) w7) := Lib.hid (by
          have h := HST7.out.isb
          rw [← HA.out, HP0.out, HT0.out, HB0.out]
          simpa [List.append_assoc] using h)
         have HSTR := Lib.hid (string_any (T := OT) B B A w7 HFIN.out hne)
         have HBB := Lib.hid (HBEL.out.trans (HST7.out.bel.mono HWB.out))
         go_wp2_with fail
         refine HSTR.out.mono ?_; rintro e w8 ⟨rfl, hb⟩
         have HB9 := Lib.hid (HBB.out.trans (hb.mono HWB.out))
         clear hb
         go_wp2_with fail
         go_ret2
         exact ⟨HB9.out, by simp⟩
       · have bz : decide (0 < bl) = true := decide_eq_true (by omega)
         have HB0 : Hid (BT_ = [32]) := Lib.hid (by rw [← HBT.out, if_neg hz])
         clear hz
         go_wp2_with fail
         refine (put1 [32] HST6.out.isb (by have hq := congrArg List.length HB0.out; have hq1 := congrArg List.length HT0.out; have hq2 := congrArg List.length HP0.out; simp only [List.length_append, List.length_cons, List.length_nil] at hq hq1 hq2; have hL := HLEN.out; simp only [List.length_append, List.length_cons, List.length_nil] at hL ⊢; omega) HST6.out.siz).mono ?_; rintro e w7 hW7
         obtain rfl := hW7.1
         have HST7 := Lib.hid (HST6.out.step hW7)
         have HK7 := Lib.hid (HK6.out.trans hW7.2.2.2)
         clear hW7
         clear c0 c1 c2 c3 c4 c5
         have c0 := (HK7.out.blk HBK.out hnb (by decide)).c 0 _ rfl
         have c1 := (HK7.out.blk HBK.out hnb (by decide)).c 1 _ rfl
         have c2 := (HK7.out.blk HBK.out hnb (by decide)).c 2 _ rfl
         have c3 := (HK7.out.blk HBK.out hnb (by decide)).c 3 _ rfl
         have c4 := (HK7.out.blk HBK.out hnb (by decide)).c 4 _ rfl
         have c5 := (HK7.out.blk HBK.out hnb (by decide)).c 5 _ rfl
         go_wp2_with fail
         refine (HS.out _ _ HST7.out (by have hq := congrArg List.length HB0.out; have hq1 := congrArg List.length HT0.out; have hq2 := congrArg List.length HP0.out; simp only [List.length_append, List.length_cons, List.length_nil] at hq hq1 hq2; have hL := HLEN.out; simp only [List.length_append, List.length_cons, List.length_nil] at hL ⊢; omega)).mono ?_; rintro e w8 hW8
         obtain rfl := hW8.1
         have HST8 := Lib.hid (HST7.out.step hW8)
         clear hW8 c0 c1 c2 c3 c4 c5
         have HFIN : Hid (Lib.IsBuilder OT U8 B B (Lib.byteCells A) w8) := Lib.hid (by
          have h := HST8.out.isb
          rw [← HA.out, HP0.out, HT0.out, HB0.out]
          simpa [List.append_assoc] using h)
         have HSTR := Lib.hid (string_any (T := OT) B B A w8 HFIN.out hne)
         have HBB := Lib.hid (HBEL.out.trans (HST8.out.bel.mono HWB.out))
         go_wp2_with fail
         refine HSTR.out.mono ?_; rintro e w9 ⟨rfl, hb⟩
         have HB9 := Lib.hid (HBB.out.trans (hb.mono HWB.out))
         clear hb
         go_wp2_with fail
         go_ret2
         exact ⟨HB9.out, by simp⟩
   · have bp : (m.prim == 0) = false := beq_eq_false_iff_ne.2 hp
     have HP0 : Hid (PT = [32, 60, 112, 114, 105, 109, 105, 116, 105, 118, 101, 58, 32] ++ (Lib.itoa m.prim ++ [62])) := Lib.hid (by rw [← HPT.out, if_neg hp])
     clear hp
     go_wp2_with fail
     refine (HNUM.out _ HST4.out.bel).mono ?_; rintro e w5 ⟨rfl, hb⟩
     have HST5 := Lib.hid (HST4.out.go hb)
     have HK5 := Lib.hid (HK4.out.below hb)
     clear hb
     clear c0 c1 c2 c3 c4 c5
     have c0 := (HK5.out.blk HBK.out hnb (by decide)).c 0 _ rfl
     have c1 := (HK5.out.blk HBK.out hnb (by decide)).c 1 _ rfl
     have c2 := (HK5.out.blk HBK.out hnb (by decide)).c 2 _ rfl
     have c3 := (HK5.out.blk HBK.out hnb (by decide)).c 3 _ rfl
     have c4 := (HK5.out.blk HBK.out hnb (by decide)).c 4 _ rfl
     have c5 := (HK5.out.blk HBK.out hnb (by decide)).c 5 _ rfl
     go_wp2_with fail
     refine (put3 [32, 60, 112, 114, 105, 109, 105, 116, 105, 118, 101, 58, 32] (Lib.itoa m.prim) [62] HST5.out.isb (by have hq := congrArg List.length HP0.out; simp only [List.length_append, List.length_cons, List.length_nil] at hq; have hL := HLEN.out; simp only [List.length_append, List.length_cons, List.length_nil] at hL ⊢; omega) HST5.out.siz).mono ?_; rintro e w6 hW6
     obtain rfl := hW6.1
     have HST6 := Lib.hid (HST5.out.step hW6)
     have HK6 := Lib.hid (HK5.out.trans hW6.2.2.2)
     clear hW6
     clear c0 c1 c2 c3 c4 c5
     have c0 := (HK6.out.blk HBK.out hnb (by decide)).c 0 _ rfl
     have c1 := (HK6.out.blk HBK.out hnb (by decide)).c 1 _ rfl
     have c2 := (HK6.out.blk HBK.out hnb (by decide)).c 2 _ rfl
     have c3 := (HK6.out.blk HBK.out hnb (by decide)).c 3 _ rfl
     have c4 := (HK6.out.blk HBK.out hnb (by decide)).c 4 _ rfl
     have c5 := (HK6.out.blk HBK.out hnb (by decide)).c 5 _ rfl
     by_cases ht : tl = 0
     · have bt : decide (0 < tl) = false := decide_eq_false (by omega)
       have HT0 : Hid (TT = []) := Lib.hid (by rw [← HTT.out, if_pos ht])
       clear ht
       by_cases hz : bl = 0
       · have bz : decide (0 < bl) = false := decide_eq_false (by omega)
         have HB0 : Hid (BT_ = []) := Lib.hid (by rw [← HBT.out, if_pos hz])
         clear hz
         go_wp2_with fail
         refine (HS.out _ _ HST6.out (by have hq := congrArg List.length HB0.out; have hq1 := congrArg List.length HT0.out; have hq2 := congrArg List.length HP0.out; simp only [List.length_append, List.length_cons, List.length_nil] at hq hq1 hq2; have hL := HLEN.out; simp only [List.length_append, List.length_cons, List.length_nil] at hL ⊢; omega)).mono ?_; rintro e w7 hW7
         obtain rfl := hW7.1
         have HST7 := Lib.hid (HST6.out.step hW7)
         clear hW7 c0 c1 c2 c3 c4 c5
         have HFIN : Hid (Lib.IsBuilder OT U8 B B (Lib.byteCells A) w7) := Lib.hid (by
          have h := HST7.out.isb
          rw [← HA.out, HP0.out, HT0.out, HB0.out]
          simpa [List.append_assoc] using h)
         have HSTR := Lib.hid (string_any (T := OT) B B A w7 HFIN.out hne)
         have HBB := Lib.hid (HBEL.out.trans (HST7.out.bel.mono HWB.out))
         go_wp2_with fail
         refine HSTR.out.mono ?_; rintro e w8 ⟨rfl, hb⟩
         have HB9 := Lib.hid (HBB.out.trans (hb.mono HWB.out))
         clear hb
         go_wp2_with fail
         go_ret2
         exact ⟨HB9.out, by simp⟩
       · have bz : decide (0 < bl) = true := decide_eq_true (by omega)
         have HB0 : Hid (BT_ = [32]) := Lib.hid (by rw [← HBT.out, if_neg hz])
         clear hz
         go_wp2_with fail
         refine (put1 [32] HST6.out.isb (by have hq := congrArg List.length HB0.out; have hq1 := congrArg List.length HT0.out; have hq2 := congrArg List.length HP0.out; simp only [List.length_append, List.length_cons, List.length_nil] at hq hq1 hq2; have hL := HLEN.out; simp only [List.length_append, List.length_cons, List.length_nil] at hL ⊢; omega) HST6.out.siz).mono ?_; rintro e w7 hW7
         obtain rfl := hW7.1
         have HST7 := Lib.hid (HST6.out.step hW7)
         have HK7 := Lib.hid (HK6.out.trans hW7.2.2.2)
         clear hW7
         clear c0 c1 c2 c3 c4 c5
         have c0 := (HK7.out.blk HBK.out hnb (by decide)).c 0 _ rfl
         have c1 := (HK7.out.blk HBK.out hnb (by decide)).c 1 _ rfl
         have c2 := (HK7.out.blk HBK.out hnb (by decide)).c 2 _ rfl
         have c3 := (HK7.out.blk HBK.out hnb (by decide)).c 3 _ rfl
         have c4 := (HK7.out.blk HBK.out hnb (by decide)).c 4 _ rfl
         have c5 := (HK7.out.blk HBK.out hnb (by decide)).c 5 _ rfl
         go_wp2_with fail
         refine (HS.out _ _ HST7.out (by have hq := congrArg List.length HB0.out; have hq1 := congrArg List.length HT0.out; have hq2 := congrArg List.length HP0.out; simp only [List.length_append, List.length_cons, List.length_nil] at hq hq1 hq2; have hL := HLEN.out; simp only [List.length_append, List.length_cons, List.length_nil] at hL ⊢; omega)).mono ?_; rintro e w8 hW8
         obtain rfl := hW8.1
         have HST8 := Lib.hid (HST7.out.step hW8)
         clear hW8 c0 c1 c2 c3 c4 c5
         have HFIN : Hid (Lib.IsBuilder OT U8 B B (Lib.byteCells A) w8) := Lib.hid (by
          have h := HST8.out.isb
          rw [← HA.out, HP0.out, HT0.out, HB0.out]
          simpa [List.append_assoc] using h)
         have HSTR := Lib.hid (string_any (T := OT) B B A w8 HFIN.out hne)
         have HBB := Lib.hid (HBEL.out.trans (HST8.out.bel.mono HWB.out))
         go_wp2_with fail
         refine HSTR.out.mono ?_; rintro e w9 ⟨rfl, hb⟩
         have HB9 := Lib.hid (HBB.out.trans (hb.mono HWB.out))
         clear hb
         go_wp2_with fail
         go_ret2
         exact ⟨HB9.out, by simp⟩
     · have bt : decide (0 < tl) = true := decide_eq_true (by omega)
       have HT0 : Hid (TT = [32, 124, 32] ++ (J ++ [32, 124])) := Lib.hid (by rw [← HTT.out, if_neg ht])
       clear ht
       go_wp2_with fail
       refine (HJ.out _ HST6.out.bel).mono ?_; rintro e w7 ⟨rfl, hb⟩
       have HST7 := Lib.hid (HST6.out.go hb)
       have HK7 := Lib.hid (HK6.out.below hb)
       clear hb
       clear c0 c1 c2 c3 c4 c5
       have c0 := (HK7.out.blk HBK.out hnb (by decide)).c 0 _ rfl
       have c1 := (HK7.out.blk HBK.out hnb (by decide)).c 1 _ rfl
       have c2 := (HK7.out.blk HBK.out hnb (by decide)).c 2 _ rfl
       have c3 := (HK7.out.blk HBK.out hnb (by decide)).c 3 _ rfl
       have c4 := (HK7.out.blk HBK.out hnb (by decide)).c 4 _ rfl
       have c5 := (HK7.out.blk HBK.out hnb (by decide)).c 5 _ rfl
       go_wp2_with fail
       refine (put3 [32, 124, 32] J [32, 124] HST7.out.isb (by have hq := congrArg List.length HT0.out; have hq2 := congrArg List.length HP0.out; simp only [List.length_append, List.length_cons, List.length_nil] at hq hq2; have hL := HLEN.out; simp only [List.length_append, List.length_cons, List.length_nil] at hL ⊢; omega) HST7.out.siz).mono ?_; rintro e w8 hW8
       obtain rfl := hW8.1
       have HST8 := Lib.hid (HST7.out.step hW8)
       have HK8 := Lib.hid (HK7.out.trans hW8.2.2.2)
       clear hW8
       clear c0 c1 c2 c3 c4 c5
       have c0 := (HK8.out.blk HBK.out hnb (by decide)).c 0 _ rfl
       have c1 := (HK8.out.blk HBK.out hnb (by decide)).c 1 _ rfl
       have c2 := (HK8.out.blk HBK.out hnb (by decide)).c 2 _ rfl
       have c3 := (HK8.out.blk HBK.out hnb (by decide)).c 3 _ rfl
       have c4 := (HK8.out.blk HBK.out hnb (by decide)).c 4 _ rfl
       have c5 := (HK8.out.blk HBK.out hnb (by decide)).c 5 _ rfl
       by_cases hz : bl = 0
       · have bz : decide (0 < bl) = false := decide_eq_false (by omega)
         have HB0 : Hid (BT_ = []) := Lib.hid (by rw [← HBT.out, if_pos hz])
         clear hz
         go_wp2_with fail
         refine (HS.out _ _ HST8.out (by have hq := congrArg List.length HB0.out; have hq1 := congrArg List.length HT0.out; have hq2 := congrArg List.length HP0.out; simp only [List.length_append, List.length_cons, List.length_nil] at hq hq1 hq2; have hL := HLEN.out; simp only [List.length_append, List.length_cons, List.length_nil] at hL ⊢; omega)).mono ?_; rintro e w9 hW9
         obtain rfl := hW9.1
         have HST9 := Lib.hid (HST8.out.step hW9)
         clear hW9 c0 c1 c2 c3 c4 c5
         have HFIN : Hid (Lib.IsBuilder OT U8 B B (Lib.byteCells A) w9) := Lib.hid (by
          have h := HST9.out.isb
          rw [← HA.out, HP0.out, HT0.out, HB0.out]
          simpa [List.append_assoc] using h)
         have HSTR := Lib.hid (string_any (T := OT) B B A w9 HFIN.out hne)
         have HBB := Lib.hid (HBEL.out.trans (HST9.out.bel.mono HWB.out))
         go_wp2_with fail
         refine HSTR.out.mono ?_; rintro e w10 ⟨rfl, hb⟩
         have HB9 := Lib.hid (HBB.out.trans (hb.mono HWB.out))
         clear hb
         go_wp2_with fail
         go_ret2
         exact ⟨HB9.out, by simp⟩
       · have bz : decide (0 < bl) = true := decide_eq_true (by omega)
         have HB0 : Hid (BT_ = [32]) := Lib.hid (by rw [← HBT.out, if_neg hz])
         clear hz
         go_wp2_with fail
         refine (put1 [32] HST8.out.isb (by have hq := congrArg List.length HB0.out; have hq1 := congrArg List.length HT0.out; have hq2 := congrArg List.length HP0.out; simp only [List.length_append, List.length_cons, List.length_nil] at hq hq1 hq2; have hL := HLEN.out; simp only [List.length_append, List.length_cons, List.length_nil] at hL ⊢; omega) HST8.out.siz).mono ?_; rintro e w9 hW9
         obtain rfl := hW9.1
         have HST9 := Lib.hid (HST8.out.step hW9)
         have HK9 := Lib.hid (HK8.out.trans hW9.2.2.2)
         clear hW9
         clear c0 c1 c2 c3 c4 c5
         have c0 := (HK9.out.blk HBK.out hnb (by decide)).c 0 _ rfl
         have c1 := (HK9.out.blk HBK.out hnb (by decide)).c 1 _ rfl
         have c2 := (HK9.out.blk HBK.out hnb (by decide)).c 2 _ rfl
         have c3 := (HK9.out.blk HBK.out hnb (by decide)).c 3 _ rfl
         have c4 := (HK9.out.blk HBK.out hnb (by decide)).c 4 _ rfl
         have c5 := (HK9.out.blk HBK.out hnb (by decide)).c 5 _ rfl
         go_wp2_with fail
         refine (HS.out _ _ HST9.out (by have hq := congrArg List.length HB0.out; have hq1 := congrArg List.length HT0.out; have hq2 := congrArg List.length HP0.out; simp only [List.length_append, List.length_cons, List.length_nil] at hq hq1 hq2; have hL := HLEN.out; simp only [List.length_append, List.length_cons, List.length_nil] at hL ⊢; omega)).mono ?_; rintro e w10 hW10
         obtain rfl := hW10.1
         have HST10 := Lib.hid (HST9.out.step hW10)
         clear hW10 c0 c1 c2 c3 c4 c5
         have HFIN : Hid (Lib.IsBuilder OT U8 B B (Lib.byteCells A) w10) := Lib.hid (by
          have h := HST10.out.isb
          rw [← HA.out, HP0.out, HT0.out, HB0.out]
          simpa [List.append_assoc] using h)
         have HSTR := Lib.hid (string_any (T := OT) B B A w10 HFIN.out hne)
         have HBB := Lib.hid (HBEL.out.trans (HST10.out.bel.mono HWB.out))
         go_wp2_with fail
         refine HSTR.out.mono ?_; rintro e w11 ⟨rfl, hb⟩
         have HB9 := Lib.hid (HBB.out.trans (hb.mono HWB.out))
         clear hb
         go_wp2_with fail
         go_ret2
         exact ⟨HB9.out, by simp⟩
 · rw [if_neg h0]
   have h0b : (ck == 0) = false := beq_eq_false_iff_ne.2 h0
   clear hm hpow hmax herr
   go_enter Tryz.func12, Tryz.ntmps12
   go_wp2_with fail
   refine HCK1.out.mono ?_; rintro e w1 ⟨rfl, hb1⟩
   have HBW := Lib.hid (HX.out.trans (hb1.mono HX.out.size))
   clear hb1
   go_wp2_with fail
   go_ret2
   exact ⟨HBW.out, rfl⟩
end Tr
end Go.Proofs.YtbdgoimbddlcoaaGreatDoor
