/- The law TreeSame (printed by gen_trl3.py, hdx.py). -/
import Derived.Test.YtfbhokdcnjekiaaGreatDoorTrSx
import Derived.Test.YtfbhokdcnjekiaaGreatDoorTrAl
set_option linter.unusedVariables false
namespace Go.Proofs.YtfbhokdcnjekiaaGreatDoor
open Go.RowKit
namespace Tr
open Bs Sm
set_option maxRecDepth 100000 in
set_option maxHeartbeats 6400000 in
theorem same_walk (a b : Mt) (pv tv bv pv' tv' bv' : Value) (n0 : Int) (hn1 : -9223372036854775808 ≤ n0) (hn2 : n0 ≤ 9223372036854775807) (hia : ∀ x ∈ allL a.body, InI x) (hib : ∀ x ∈ allL b.body, InI x)
    (w : World) (ha : MtAt (fun _ => True) w a pv tv bv) (hb : MtAt (fun _ => True) w b pv' tv' bv') (hpow : Pow10 w) (herr : ErrVar w) (hmax : MaxV w) :
    Calls Tryz.prog 6 #[mtV a pv tv bv, mtV b pv' tv' bv', .int .i64 n0] w (Back (.bool true) w) := by
  have haB := ha.mono (S' := fun x => x < w.heap.size) (fun _ _ hl => hl)
  have hbB := hb.mono (S' := fun x => x < w.heap.size) (fun _ _ hl => hl)
  obtain ⟨pa0, pc0, ta0, tc0, ba0, bc0, rfl, rfl, rfl⟩ := ha.form
  obtain ⟨pa1, pc1, ta1, tc1, ba1, bc1, rfl, rfl, rfl⟩ := hb.form
  obtain ⟨A, hA⟩ : ∃ M, cutM a = M := ⟨_, rfl⟩
  obtain ⟨B, hB⟩ : ∃ M, cutM b = M := ⟨_, rfl⟩
  have hmA : Mild A.body := by rw [← hA]; exact few_mild a.body hia 60
  have hmB : Mild B.body := by rw [← hB]; exact few_mild b.body hib 60
  have hpA : A.params.length ≤ 15 := by rw [← hA]; show (a.params.take 15).length ≤ 15; rw [List.length_take]; omega
  have htA : A.temps.length ≤ 15 := by rw [← hA]; show (a.temps.take 15).length ≤ 15; rw [List.length_take]; omega
  have hpB : B.params.length ≤ 15 := by rw [← hB]; show (b.params.take 15).length ≤ 15; rw [List.length_take]; omega
  have htB : B.temps.length ≤ 15 := by rw [← hB]; show (b.temps.take 15).length ≤ 15; rw [List.length_take]; omega
  have hX := alloc_bel w (.cells #[.string ⟨a.name.toArray⟩, .slice pa0 a.params.length pc0, .slice ta0 a.temps.length tc0, .int .i64 a.prim, .slice ba0 a.body.length bc0, .int .i64 a.at_] 25)
  have hka := Blk.made (T := 25) (cs := #[.string ⟨a.name.toArray⟩, .slice pa0 a.params.length pc0, .slice ta0 a.temps.length tc0, .int .i64 a.prim, .slice ba0 a.body.length bc0, .int .i64 a.at_]) w
  obtain ⟨w1, hw1⟩ : ∃ v, w.alloc (.cells #[.string ⟨a.name.toArray⟩, .slice pa0 a.params.length pc0, .slice ta0 a.temps.length tc0, .int .i64 a.prim, .slice ba0 a.body.length bc0, .int .i64 a.at_] 25) = v := ⟨_, rfl⟩
  rw [hw1] at hX hka
  have hY := alloc_bel w1 (.cells #[.string ⟨b.name.toArray⟩, .slice pa1 b.params.length pc1, .slice ta1 b.temps.length tc1, .int .i64 b.prim, .slice ba1 b.body.length bc1, .int .i64 b.at_] 25)
  have hkb := Blk.made (T := 25) (cs := #[.string ⟨b.name.toArray⟩, .slice pa1 b.params.length pc1, .slice ta1 b.temps.length tc1, .int .i64 b.prim, .slice ba1 b.body.length bc1, .int .i64 b.at_]) w1
  obtain ⟨w2, hw2⟩ : ∃ v, w1.alloc (.cells #[.string ⟨b.name.toArray⟩, .slice pa1 b.params.length pc1, .slice ta1 b.temps.length tc1, .int .i64 b.prim, .slice ba1 b.body.length bc1, .int .i64 b.at_] 25) = v := ⟨_, rfl⟩
  rw [hw2] at hY hkb
  have hsz : w1.heap.size = w.heap.size + 1 := by rw [← hw1]; simp
  rw [hsz] at hkb
  have hXY := hX.trans (hY.mono hX.size)
  have HKA2 := Lib.hid (hka.below hY hka.lt)
  have HKB2 := Lib.hid hkb
  have HAW := Lib.hid (awake_any w2 (hpow.below hXY) (hmax.below hXY) (herr.below hXY))
  have HB02 := Lib.hid hXY
  have HMA0 := Lib.hid haB
  have HMB0 := Lib.hid hbB
  have HMIA := Lib.hid hmA
  have HMIB := Lib.hid hmB
  have HA := Lib.hid hA
  have HB := Lib.hid hB
  have HW1 := Lib.hid hw1
  have HW2 := Lib.hid hw2
  have HL15 := Lib.hid (And.intro (And.intro hpA htA) (And.intro hpB htB))
  clear ha hb haB hbB hA hB hmA hmB hpA htA hpB htB hX hka hw1 hY hkb hw2 hsz hXY hia hib hpow herr hmax
  unfold mtV
  go_enter Tryz.func6, Tryz.ntmps6
  go_upto_region 1 with fail
  rw [HW1.out, HW2.out]
  go_wp2_with fail
  refine HAW.out.mono ?_; rintro e w3 ⟨rfl, hb3⟩
  have HKA3 := Lib.hid (HKA2.out.below hb3 HKA2.out.lt)
  have HKB3 := Lib.hid (HKB2.out.below hb3 HKB2.out.lt)
  have HB03 := Lib.hid (HB02.out.trans (hb3.mono HB02.out.size))
  clear hb3
  have HCA : Hid (∀ v, Below w3.heap.size w3 v → Calls Tryz.prog 8 #[.agg #[.string ⟨a.name.toArray⟩, .slice pa0 a.params.length pc0, .slice ta0 a.temps.length tc0, .int .i64 a.prim, .slice ba0 a.body.length bc0, .int .i64 a.at_]] v (fun e v' => Below v.heap.size v v' ∧ ∃ pa pc ta tc ba bc, e = .returned (.agg #[.string ⟨A.name.toArray⟩, .slice pa A.params.length pc, .slice ta A.temps.length tc, .int .i64 A.prim, .slice ba A.body.length bc, .int .i64 A.at_]) ∧ MtAt (fun x => x < w.heap.size ∨ v.heap.size ≤ x) v' A (.slice pa A.params.length pc) (.slice ta A.temps.length tc) (.slice ba A.body.length bc))) := Lib.hid (fun v hv => by
    have h0 := HB03.out.trans (hv.mono HB03.out.size)
    have := cutm_any w.heap.size a _ _ _ v h0.size (HMA0.out.kp (Kp.lt h0))
    rw [HA.out] at this
    refine this.mono ?_
    rintro e v' ⟨hbd, pv', tv', bv', rfl, hm⟩
    obtain ⟨pa, pc, ta, tc, ba, bc, rfl, rfl, rfl⟩ := (hm.mono (S' := fun _ => True) (fun _ _ _ => trivial)).form
    exact ⟨hbd, pa, pc, ta, tc, ba, bc, rfl, hm⟩)
  have HCB : Hid (∀ v, Below w3.heap.size w3 v → Calls Tryz.prog 8 #[.agg #[.string ⟨b.name.toArray⟩, .slice pa1 b.params.length pc1, .slice ta1 b.temps.length tc1, .int .i64 b.prim, .slice ba1 b.body.length bc1, .int .i64 b.at_]] v (fun e v' => Below v.heap.size v v' ∧ ∃ qa qc ra rc sa sc, e = .returned (.agg #[.string ⟨B.name.toArray⟩, .slice qa B.params.length qc, .slice ra B.temps.length rc, .int .i64 B.prim, .slice sa B.body.length sc, .int .i64 B.at_]) ∧ MtAt (fun x => x < w.heap.size ∨ v.heap.size ≤ x) v' B (.slice qa B.params.length qc) (.slice ra B.temps.length rc) (.slice sa B.body.length sc))) := Lib.hid (fun v hv => by
    have h0 := HB03.out.trans (hv.mono HB03.out.size)
    have := cutm_any w.heap.size b _ _ _ v h0.size (HMB0.out.kp (Kp.lt h0))
    rw [HB.out] at this
    refine this.mono ?_
    rintro e v' ⟨hbd, pv', tv', bv', rfl, hm⟩
    obtain ⟨qa, qc, ra, rc, sa, sc, rfl, rfl, rfl⟩ := (hm.mono (S' := fun _ => True) (fun _ _ _ => trivial)).form
    exact ⟨hbd, qa, qc, ra, rc, sa, sc, rfl, hm⟩)
  go_upto_region 3 with fail
  go_cut [3] (fun s3 wx => s3 = .pointer (some ⟨w.heap.size, 0, none⟩) ∧ ∃ pa pc ta tc ba bc qa qc ra rc sa sc, Blk 25 w.heap.size #[.string ⟨A.name.toArray⟩, .slice pa A.params.length pc, .slice ta A.temps.length tc, .int .i64 A.prim, .slice ba A.body.length bc, .int .i64 A.at_] wx ∧ Blk 25 (w.heap.size + 1) #[.string ⟨B.name.toArray⟩, .slice qa B.params.length qc, .slice ra B.temps.length rc, .int .i64 B.prim, .slice sa B.body.length sc, .int .i64 B.at_] wx ∧ MtAt (fun _ => True) wx A (.slice pa A.params.length pc) (.slice ta A.temps.length tc) (.slice ba A.body.length bc) ∧ MtAt (fun _ => True) wx B (.slice qa B.params.length qc) (.slice ra B.temps.length rc) (.slice sa B.body.length sc) ∧ Below w.heap.size w wx)
  case first =>
    have HBW4 : Hid (Below w3.heap.size w3 w3.drew) := Lib.hid (Below.refl _ w3).drew
    refine wp_region_noPanic ?_
    refine Hd.start (fun _ => True) (by kernel_rfl) True.intro (fun hH0 => ?_)
    generalize hwd : w3.drew = w4
    rw [hwd] at HBW4
    clear hwd
    have HKA4 := Lib.hid (HKA3.out.below HBW4.out HKA3.out.lt)
    have HKB4 := Lib.hid (HKB3.out.below HBW4.out HKB3.out.lt)
    refine Hd.two 0 2 (o := ?_) (p := ?_) ?_ ?_ (by kernel_rfl) (fun K hK => ?_) (fun K hK => ?_)
    rotate_left 2
    · simp only [List.getElem?_toArray, List.getElem?_cons_zero]
      exact rfl
    · simp only [List.getElem?_toArray, List.getElem?_cons_succ, List.getElem?_cons_zero]
      exact rfl
    · skip
      have e0 := HKA4.out.c 0 _ rfl
      have e1 := HKA4.out.c 1 _ rfl
      have e2 := HKA4.out.c 2 _ rfl
      have e3 := HKA4.out.c 3 _ rfl
      have e4 := HKA4.out.c 4 _ rfl
      have e5 := HKA4.out.c 5 _ rfl
      go_simp
      clear e0 e1 e2 e3 e4 e5
      refine hK.out _ _ True.intro (fun hH1 => ?_)
      clear hK K
      try simp only [Act.put, List.setIfInBounds_toArray, List.set_cons_zero, List.set_cons_succ]
      refine Hd.two 1 2 (o := ?_) (p := ?_) ?_ ?_ (by kernel_rfl) (fun K hK => ?_) (fun K hK => ?_)
      rotate_left 2
      · simp only [List.getElem?_toArray, List.getElem?_cons_succ, List.getElem?_cons_zero]
        exact rfl
      · simp only [List.getElem?_toArray, List.getElem?_cons_succ, List.getElem?_cons_zero]
        exact rfl
      · skip
        go_simp
        refine (HCA.out _ HBW4.out).mono ?_; rintro e w5 ⟨hbd, pa, pc, ta, tc, ba, bc, rfl, hmx⟩
        have HKA5 := Lib.hid (HKA4.out.below hbd HKA4.out.lt)
        have HKB5 := Lib.hid (HKB4.out.below hbd HKB4.out.lt)
        have HMA5 := Lib.hid (hmx.mono (S' := fun x => x ≠ w.heap.size ∧ x ≠ w.heap.size + 1) (fun x hx _ => by have h1 := HBW4.out.size; have h2 := HKB3.out.lt; omega))
        have HBW5 := Lib.hid (HBW4.out.trans (hbd.mono HBW4.out.size))
        clear hbd hmx
        go_wp2_with fail
        refine hK.out _ _ True.intro (fun hH2 => ?_)
        clear hK K
        try simp only [Act.put, List.setIfInBounds_toArray, List.set_cons_zero, List.set_cons_succ]
        have e0 := HKB5.out.c 0 _ rfl
        have e1 := HKB5.out.c 1 _ rfl
        have e2 := HKB5.out.c 2 _ rfl
        have e3 := HKB5.out.c 3 _ rfl
        have e4 := HKB5.out.c 4 _ rfl
        have e5 := HKB5.out.c 5 _ rfl
        refine Hd.one 2 2 (o := ?_) ?_ (by kernel_rfl) (fun K hK => ?_)
        rotate_left 1
        · simp only [List.getElem?_toArray, List.getElem?_cons_succ, List.getElem?_cons_zero]
          exact rfl
        go_simp
        clear e0 e1 e2 e3 e4 e5
        refine hK.out _ _ True.intro (fun hH3 => ?_)
        clear hK K
        try simp only [Act.put, List.setIfInBounds_toArray, List.set_cons_zero, List.set_cons_succ]
        refine Hd.one 3 3 (o := ?_) ?_ (by kernel_rfl) (fun K hK => ?_)
        rotate_left 1
        · simp only [List.getElem?_toArray, List.getElem?_cons_succ, List.getElem?_cons_zero]
          exact rfl
        go_simp
        refine (HCB.out _ HBW5.out).mono ?_; rintro e w6 ⟨hbd, qa, qc, ra, rc, sa, sc, rfl, hmx⟩
        have HKA6 := Lib.hid (HKA5.out.below hbd HKA5.out.lt)
        have HKB6 := Lib.hid (HKB5.out.below hbd HKB5.out.lt)
        have HMA6 := Lib.hid (HMA5.out.bel hbd)
        have HMB6 := Lib.hid (hmx.mono (S' := fun x => x ≠ w.heap.size ∧ x ≠ w.heap.size + 1) (fun x hx _ => by have h1 := HBW5.out.size; have h2 := HKB3.out.lt; omega))
        have HBW6 := Lib.hid (HBW5.out.trans (hbd.mono HBW5.out.size))
        clear hbd hmx
        go_wp2_with fail
        refine hK.out _ _ True.intro (fun hH4 => ?_)
        clear hK K
        try simp only [Act.put, List.setIfInBounds_toArray, List.set_cons_zero, List.set_cons_succ]
        have e0 := HKA6.out.c 0 _ rfl
        have e1 := HKA6.out.c 1 _ rfl
        have e2 := HKA6.out.c 2 _ rfl
        have e3 := HKA6.out.c 3 _ rfl
        have e4 := HKA6.out.c 4 _ rfl
        have e5 := HKA6.out.c 5 _ rfl
        have ef := HKA6.out.fz
        have el := HKA6.out.lt
        refine Hd.one 4 4 (o := ?_) ?_ (by kernel_rfl) (fun K hK => ?_)
        rotate_left 1
        · simp only [List.getElem?_toArray, List.getElem?_cons_succ, List.getElem?_cons_zero]
          exact rfl
        go_simp
        generalize hwv : World.setCell _ _ _ = w7
        have htwo := two_at hwv
        have HKA7 := Lib.hid (six_at hwv HKA6.out)
        have HKB7 := Lib.hid (htwo.blk HKB6.out (by omega))
        have HMA7 := Lib.hid (HMA6.out.two htwo (fun b hb => hb.1))
        have HMB7 := Lib.hid (HMB6.out.two htwo (fun b hb => hb.1))
        have HB07 : Hid (Below w.heap.size w w7) := Lib.hid (htwo.bel (HB03.out.trans (HBW6.out.mono HB03.out.size)) (Nat.le_refl _))
        clear e0 e1 e2 e3 e4 e5 ef el hwv htwo
        refine hK.out _ _ True.intro (fun hH5 => ?_)
        clear hK K
        try simp only [Act.put, List.setIfInBounds_toArray, List.set_cons_zero, List.set_cons_succ]
        have e0 := HKB7.out.c 0 _ rfl
        have e1 := HKB7.out.c 1 _ rfl
        have e2 := HKB7.out.c 2 _ rfl
        have e3 := HKB7.out.c 3 _ rfl
        have e4 := HKB7.out.c 4 _ rfl
        have e5 := HKB7.out.c 5 _ rfl
        have ef := HKB7.out.fz
        have el := HKB7.out.lt
        refine Hd.last 5 (o := ?_) ?_ (by kernel_rfl) (by kernel_rfl) (by kernel_rfl) (fun K hK => ?_)
        rotate_left 1
        · simp only [List.getElem?_toArray, List.getElem?_cons_succ, List.getElem?_cons_zero]
          exact rfl
        go_simp
        generalize hwv : World.setCell _ _ _ = w8
        have htwo := two_at hwv
        have HKA8 := Lib.hid (htwo.blk HKA7.out (by omega))
        have HKB8 := Lib.hid (six_at hwv HKB7.out)
        have HMA8 := Lib.hid ((HMA7.out.two htwo (fun b hb => hb.2)).mono (S' := fun _ => True) (fun _ _ _ => trivial))
        have HMB8 := Lib.hid ((HMB7.out.two htwo (fun b hb => hb.2)).mono (S' := fun _ => True) (fun _ _ _ => trivial))
        have HB08 : Hid (Below w.heap.size w w8) := Lib.hid (htwo.bel HB07.out (by omega))
        clear e0 e1 e2 e3 e4 e5 ef el hwv htwo
        refine hK.out _ _ ?_
        clear hK K
        try simp only [Act.put, List.setIfInBounds_toArray, List.set_cons_zero, List.set_cons_succ]
        simp only [NoPanic]
        go_wp2_with fail
        go_meet
        exact ⟨rfl, pa, pc, ta, tc, ba, bc, qa, qc, ra, rc, sa, sc, HKA8.out, HKB8.out, HMA8.out, HMB8.out, HB08.out⟩
      · skip
        have e0 := HKB4.out.c 0 _ rfl
        have e1 := HKB4.out.c 1 _ rfl
        have e2 := HKB4.out.c 2 _ rfl
        have e3 := HKB4.out.c 3 _ rfl
        have e4 := HKB4.out.c 4 _ rfl
        have e5 := HKB4.out.c 5 _ rfl
        go_simp
        clear e0 e1 e2 e3 e4 e5
        refine hK.out _ _ True.intro (fun hH6 => ?_)
        clear hK K
        try simp only [Act.put, List.setIfInBounds_toArray, List.set_cons_zero, List.set_cons_succ]
        refine Hd.one 1 1 (o := ?_) ?_ (by kernel_rfl) (fun K hK => ?_)
        rotate_left 1
        · simp only [List.getElem?_toArray, List.getElem?_cons_succ, List.getElem?_cons_zero]
          exact rfl
        go_simp
        refine (HCA.out _ HBW4.out).mono ?_; rintro e w5 ⟨hbd, pa, pc, ta, tc, ba, bc, rfl, hmx⟩
        have HKA5 := Lib.hid (HKA4.out.below hbd HKA4.out.lt)
        have HKB5 := Lib.hid (HKB4.out.below hbd HKB4.out.lt)
        have HMA5 := Lib.hid (hmx.mono (S' := fun x => x ≠ w.heap.size ∧ x ≠ w.heap.size + 1) (fun x hx _ => by have h1 := HBW4.out.size; have h2 := HKB3.out.lt; omega))
        have HBW5 := Lib.hid (HBW4.out.trans (hbd.mono HBW4.out.size))
        clear hbd hmx
        go_wp2_with fail
        refine hK.out _ _ True.intro (fun hH7 => ?_)
        clear hK K
        try simp only [Act.put, List.setIfInBounds_toArray, List.set_cons_zero, List.set_cons_succ]
        refine Hd.one 3 3 (o := ?_) ?_ (by kernel_rfl) (fun K hK => ?_)
        rotate_left 1
        · simp only [List.getElem?_toArray, List.getElem?_cons_succ, List.getElem?_cons_zero]
          exact rfl
        go_simp
        refine (HCB.out _ HBW5.out).mono ?_; rintro e w6 ⟨hbd, qa, qc, ra, rc, sa, sc, rfl, hmx⟩
        have HKA6 := Lib.hid (HKA5.out.below hbd HKA5.out.lt)
        have HKB6 := Lib.hid (HKB5.out.below hbd HKB5.out.lt)
        have HMA6 := Lib.hid (HMA5.out.bel hbd)
        have HMB6 := Lib.hid (hmx.mono (S' := fun x => x ≠ w.heap.size ∧ x ≠ w.heap.size + 1) (fun x hx _ => by have h1 := HBW5.out.size; have h2 := HKB3.out.lt; omega))
        have HBW6 := Lib.hid (HBW5.out.trans (hbd.mono HBW5.out.size))
        clear hbd hmx
        go_wp2_with fail
        refine hK.out _ _ True.intro (fun hH8 => ?_)
        clear hK K
        try simp only [Act.put, List.setIfInBounds_toArray, List.set_cons_zero, List.set_cons_succ]
        have e0 := HKA6.out.c 0 _ rfl
        have e1 := HKA6.out.c 1 _ rfl
        have e2 := HKA6.out.c 2 _ rfl
        have e3 := HKA6.out.c 3 _ rfl
        have e4 := HKA6.out.c 4 _ rfl
        have e5 := HKA6.out.c 5 _ rfl
        have ef := HKA6.out.fz
        have el := HKA6.out.lt
        refine Hd.one 4 4 (o := ?_) ?_ (by kernel_rfl) (fun K hK => ?_)
        rotate_left 1
        · simp only [List.getElem?_toArray, List.getElem?_cons_succ, List.getElem?_cons_zero]
          exact rfl
        go_simp
        generalize hwv : World.setCell _ _ _ = w7
        have htwo := two_at hwv
        have HKA7 := Lib.hid (six_at hwv HKA6.out)
        have HKB7 := Lib.hid (htwo.blk HKB6.out (by omega))
        have HMA7 := Lib.hid (HMA6.out.two htwo (fun b hb => hb.1))
        have HMB7 := Lib.hid (HMB6.out.two htwo (fun b hb => hb.1))
        have HB07 : Hid (Below w.heap.size w w7) := Lib.hid (htwo.bel (HB03.out.trans (HBW6.out.mono HB03.out.size)) (Nat.le_refl _))
        clear e0 e1 e2 e3 e4 e5 ef el hwv htwo
        refine hK.out _ _ True.intro (fun hH9 => ?_)
        clear hK K
        try simp only [Act.put, List.setIfInBounds_toArray, List.set_cons_zero, List.set_cons_succ]
        have e0 := HKB7.out.c 0 _ rfl
        have e1 := HKB7.out.c 1 _ rfl
        have e2 := HKB7.out.c 2 _ rfl
        have e3 := HKB7.out.c 3 _ rfl
        have e4 := HKB7.out.c 4 _ rfl
        have e5 := HKB7.out.c 5 _ rfl
        have ef := HKB7.out.fz
        have el := HKB7.out.lt
        refine Hd.last 5 (o := ?_) ?_ (by kernel_rfl) (by kernel_rfl) (by kernel_rfl) (fun K hK => ?_)
        rotate_left 1
        · simp only [List.getElem?_toArray, List.getElem?_cons_succ, List.getElem?_cons_zero]
          exact rfl
        go_simp
        generalize hwv : World.setCell _ _ _ = w8
        have htwo := two_at hwv
        have HKA8 := Lib.hid (htwo.blk HKA7.out (by omega))
        have HKB8 := Lib.hid (six_at hwv HKB7.out)
        have HMA8 := Lib.hid ((HMA7.out.two htwo (fun b hb => hb.2)).mono (S' := fun _ => True) (fun _ _ _ => trivial))
        have HMB8 := Lib.hid ((HMB7.out.two htwo (fun b hb => hb.2)).mono (S' := fun _ => True) (fun _ _ _ => trivial))
        have HB08 : Hid (Below w.heap.size w w8) := Lib.hid (htwo.bel HB07.out (by omega))
        clear e0 e1 e2 e3 e4 e5 ef el hwv htwo
        refine hK.out _ _ ?_
        clear hK K
        try simp only [Act.put, List.setIfInBounds_toArray, List.set_cons_zero, List.set_cons_succ]
        simp only [NoPanic]
        go_wp2_with fail
        go_meet
        exact ⟨rfl, pa, pc, ta, tc, ba, bc, qa, qc, ra, rc, sa, sc, HKA8.out, HKB8.out, HMA8.out, HMB8.out, HB08.out⟩
    · skip
      have e0 := HKB4.out.c 0 _ rfl
      have e1 := HKB4.out.c 1 _ rfl
      have e2 := HKB4.out.c 2 _ rfl
      have e3 := HKB4.out.c 3 _ rfl
      have e4 := HKB4.out.c 4 _ rfl
      have e5 := HKB4.out.c 5 _ rfl
      go_simp
      clear e0 e1 e2 e3 e4 e5
      refine hK.out _ _ True.intro (fun hH10 => ?_)
      clear hK K
      try simp only [Act.put, List.setIfInBounds_toArray, List.set_cons_zero, List.set_cons_succ]
      have e0 := HKA4.out.c 0 _ rfl
      have e1 := HKA4.out.c 1 _ rfl
      have e2 := HKA4.out.c 2 _ rfl
      have e3 := HKA4.out.c 3 _ rfl
      have e4 := HKA4.out.c 4 _ rfl
      have e5 := HKA4.out.c 5 _ rfl
      refine Hd.one 0 0 (o := ?_) ?_ (by kernel_rfl) (fun K hK => ?_)
      rotate_left 1
      · simp only [List.getElem?_toArray, List.getElem?_cons_zero]
        exact rfl
      go_simp
      clear e0 e1 e2 e3 e4 e5
      refine hK.out _ _ True.intro (fun hH11 => ?_)
      clear hK K
      try simp only [Act.put, List.setIfInBounds_toArray, List.set_cons_zero, List.set_cons_succ]
      refine Hd.one 1 1 (o := ?_) ?_ (by kernel_rfl) (fun K hK => ?_)
      rotate_left 1
      · simp only [List.getElem?_toArray, List.getElem?_cons_succ, List.getElem?_cons_zero]
        exact rfl
      go_simp
      refine (HCA.out _ HBW4.out).mono ?_; rintro e w5 ⟨hbd, pa, pc, ta, tc, ba, bc, rfl, hmx⟩
      have HKA5 := Lib.hid (HKA4.out.below hbd HKA4.out.lt)
      have HKB5 := Lib.hid (HKB4.out.below hbd HKB4.out.lt)
      have HMA5 := Lib.hid (hmx.mono (S' := fun x => x ≠ w.heap.size ∧ x ≠ w.heap.size + 1) (fun x hx _ => by have h1 := HBW4.out.size; have h2 := HKB3.out.lt; omega))
      have HBW5 := Lib.hid (HBW4.out.trans (hbd.mono HBW4.out.size))
      clear hbd hmx
      go_wp2_with fail
      refine hK.out _ _ True.intro (fun hH12 => ?_)
      clear hK K
      try simp only [Act.put, List.setIfInBounds_toArray, List.set_cons_zero, List.set_cons_succ]
      refine Hd.one 3 3 (o := ?_) ?_ (by kernel_rfl) (fun K hK => ?_)
      rotate_left 1
      · simp only [List.getElem?_toArray, List.getElem?_cons_succ, List.getElem?_cons_zero]
        exact rfl
      go_simp
      refine (HCB.out _ HBW5.out).mono ?_; rintro e w6 ⟨hbd, qa, qc, ra, rc, sa, sc, rfl, hmx⟩
      have HKA6 := Lib.hid (HKA5.out.below hbd HKA5.out.lt)
      have HKB6 := Lib.hid (HKB5.out.below hbd HKB5.out.lt)
      have HMA6 := Lib.hid (HMA5.out.bel hbd)
      have HMB6 := Lib.hid (hmx.mono (S' := fun x => x ≠ w.heap.size ∧ x ≠ w.heap.size + 1) (fun x hx _ => by have h1 := HBW5.out.size; have h2 := HKB3.out.lt; omega))
      have HBW6 := Lib.hid (HBW5.out.trans (hbd.mono HBW5.out.size))
      clear hbd hmx
      go_wp2_with fail
      refine hK.out _ _ True.intro (fun hH13 => ?_)
      clear hK K
      try simp only [Act.put, List.setIfInBounds_toArray, List.set_cons_zero, List.set_cons_succ]
      have e0 := HKA6.out.c 0 _ rfl
      have e1 := HKA6.out.c 1 _ rfl
      have e2 := HKA6.out.c 2 _ rfl
      have e3 := HKA6.out.c 3 _ rfl
      have e4 := HKA6.out.c 4 _ rfl
      have e5 := HKA6.out.c 5 _ rfl
      have ef := HKA6.out.fz
      have el := HKA6.out.lt
      refine Hd.one 4 4 (o := ?_) ?_ (by kernel_rfl) (fun K hK => ?_)
      rotate_left 1
      · simp only [List.getElem?_toArray, List.getElem?_cons_succ, List.getElem?_cons_zero]
        exact rfl
      go_simp
      generalize hwv : World.setCell _ _ _ = w7
      have htwo := two_at hwv
      have HKA7 := Lib.hid (six_at hwv HKA6.out)
      have HKB7 := Lib.hid (htwo.blk HKB6.out (by omega))
      have HMA7 := Lib.hid (HMA6.out.two htwo (fun b hb => hb.1))
      have HMB7 := Lib.hid (HMB6.out.two htwo (fun b hb => hb.1))
      have HB07 : Hid (Below w.heap.size w w7) := Lib.hid (htwo.bel (HB03.out.trans (HBW6.out.mono HB03.out.size)) (Nat.le_refl _))
      clear e0 e1 e2 e3 e4 e5 ef el hwv htwo
      refine hK.out _ _ True.intro (fun hH14 => ?_)
      clear hK K
      try simp only [Act.put, List.setIfInBounds_toArray, List.set_cons_zero, List.set_cons_succ]
      have e0 := HKB7.out.c 0 _ rfl
      have e1 := HKB7.out.c 1 _ rfl
      have e2 := HKB7.out.c 2 _ rfl
      have e3 := HKB7.out.c 3 _ rfl
      have e4 := HKB7.out.c 4 _ rfl
      have e5 := HKB7.out.c 5 _ rfl
      have ef := HKB7.out.fz
      have el := HKB7.out.lt
      refine Hd.last 5 (o := ?_) ?_ (by kernel_rfl) (by kernel_rfl) (by kernel_rfl) (fun K hK => ?_)
      rotate_left 1
      · simp only [List.getElem?_toArray, List.getElem?_cons_succ, List.getElem?_cons_zero]
        exact rfl
      go_simp
      generalize hwv : World.setCell _ _ _ = w8
      have htwo := two_at hwv
      have HKA8 := Lib.hid (htwo.blk HKA7.out (by omega))
      have HKB8 := Lib.hid (six_at hwv HKB7.out)
      have HMA8 := Lib.hid ((HMA7.out.two htwo (fun b hb => hb.2)).mono (S' := fun _ => True) (fun _ _ _ => trivial))
      have HMB8 := Lib.hid ((HMB7.out.two htwo (fun b hb => hb.2)).mono (S' := fun _ => True) (fun _ _ _ => trivial))
      have HB08 : Hid (Below w.heap.size w w8) := Lib.hid (htwo.bel HB07.out (by omega))
      clear e0 e1 e2 e3 e4 e5 ef el hwv htwo
      refine hK.out _ _ ?_
      clear hK K
      try simp only [Act.put, List.setIfInBounds_toArray, List.set_cons_zero, List.set_cons_succ]
      simp only [NoPanic]
      go_wp2_with fail
      go_meet
      exact ⟨rfl, pa, pc, ta, tc, ba, bc, qa, qc, ra, rc, sa, sc, HKA8.out, HKB8.out, HMA8.out, HMB8.out, HB08.out⟩
  case rest =>
  obtain ⟨rfl, pa, pc, ta, tc, ba, bc, qa, qc, ra, rc, sa, sc, hka, hkb, hma, hmb, hb0⟩ := hcut
  obtain ⟨pl, hpl⟩ : ∃ n, A.params.length = n := ⟨_, rfl⟩
  obtain ⟨tl, htl⟩ : ∃ n, A.temps.length = n := ⟨_, rfl⟩
  obtain ⟨bl, hbl⟩ : ∃ n, A.body.length = n := ⟨_, rfl⟩
  obtain ⟨ql, hql⟩ : ∃ n, B.params.length = n := ⟨_, rfl⟩
  obtain ⟨rl, hrl⟩ : ∃ n, B.temps.length = n := ⟨_, rfl⟩
  obtain ⟨sl, hsl⟩ : ∃ n, B.body.length = n := ⟨_, rfl⟩
  rw [hpl, htl, hbl] at hka hma
  rw [hql, hrl, hsl] at hkb hmb
  have HOX : Hid (∀ v, Below wc.heap.size wc v → Calls Tryz.prog 9 #[.agg #[.string ⟨A.name.toArray⟩, .slice pa pl pc, .slice ta tl tc, .int .i64 A.prim, .slice ba bl bc, .int .i64 A.at_]] v (fun e v' => Below v.heap.size v v' ∧ ∃ xa xc ya yc za zc, e = .returned (.agg #[.string ⟨A.name.toArray⟩, .slice xa pl xc, .slice ya tl yc, .int .i64 A.prim, .slice za bl zc, .int .i64 A.at_]) ∧ XAt (fun b => v.heap.size ≤ b ∧ b < v'.heap.size) v' A (.slice xa pl xc) (.slice ya tl yc) (.slice za bl zc))) := Lib.hid (fun v hv => by
    have := own_sep A HMIA.out HL15.out.1.1 HL15.out.1.2 _ _ _ v (hma.bel hv)
    rw [hpl, htl, hbl] at this
    exact this)
  have HOY : Hid (∀ v, Below wc.heap.size wc v → Calls Tryz.prog 9 #[.agg #[.string ⟨B.name.toArray⟩, .slice qa ql qc, .slice ra rl rc, .int .i64 B.prim, .slice sa sl sc, .int .i64 B.at_]] v (fun e v' => Below v.heap.size v v' ∧ ∃ ua uc va vc oa oc, e = .returned (.agg #[.string ⟨B.name.toArray⟩, .slice ua ql uc, .slice va rl vc, .int .i64 B.prim, .slice oa sl oc, .int .i64 B.at_]) ∧ XAt (fun b => v.heap.size ≤ b ∧ b < v'.heap.size) v' B (.slice ua ql uc) (.slice va rl vc) (.slice oa sl oc))) := Lib.hid (fun v hv => by
    have := own_sep B HMIB.out HL15.out.2.1 HL15.out.2.2 _ _ _ v (hmb.bel hv)
    rw [hql, hrl, hsl] at this
    exact this)
  have hS4 : Hid (∀ v, Below wc.heap.size wc v → ((v.cell? ⟨w.heap.size, 0, none⟩ = some (.string ⟨A.name.toArray⟩) ∧ v.cell? ⟨w.heap.size, 1, none⟩ = some (.slice pa pl pc) ∧ v.cell? ⟨w.heap.size, 2, none⟩ = some (.slice ta tl tc) ∧ v.cell? ⟨w.heap.size, 3, none⟩ = some (.int .i64 A.prim) ∧ v.cell? ⟨w.heap.size, 4, none⟩ = some (.slice ba bl bc) ∧ v.cell? ⟨w.heap.size, 5, none⟩ = some (.int .i64 A.at_)) ∧ (v.cell? ⟨(w.heap.size + 1), 0, none⟩ = some (.string ⟨B.name.toArray⟩) ∧ v.cell? ⟨(w.heap.size + 1), 1, none⟩ = some (.slice qa ql qc) ∧ v.cell? ⟨(w.heap.size + 1), 2, none⟩ = some (.slice ra rl rc) ∧ v.cell? ⟨(w.heap.size + 1), 3, none⟩ = some (.int .i64 B.prim) ∧ v.cell? ⟨(w.heap.size + 1), 4, none⟩ = some (.slice sa sl sc) ∧ v.cell? ⟨(w.heap.size + 1), 5, none⟩ = some (.int .i64 B.at_)))) := Lib.hid (fun v hv => by
    have h1 := hka.below hv hka.lt
    have h2 := hkb.below hv hkb.lt
    exact ⟨⟨h1.c 0 _ rfl, h1.c 1 _ rfl, h1.c 2 _ rfl, h1.c 3 _ rfl, h1.c 4 _ rfl, h1.c 5 _ rfl⟩, h2.c 0 _ rfl, h2.c 1 _ rfl, h2.c 2 _ rfl, h2.c 3 _ rfl, h2.c 4 _ rfl, h2.c 5 _ rfl⟩)
  have HPL := Lib.hid (And.intro hpl (And.intro htl hbl))
  have HQL := Lib.hid (And.intro hql (And.intro hrl hsl))
  have hklt := hkb.lt
  obtain ⟨H0, hz0⟩ : ∃ k, wc.heap.size = k := ⟨_, rfl⟩
  have HMG := Lib.hid (hma.mono (S' := fun x => x < H0) (fun x _ hl => by omega))
  have hkl0 : w.heap.size + 1 < H0 := by omega
  have HKA := Lib.hid hka
  have HKB := Lib.hid hkb
  have HMA := Lib.hid hma
  have HMB := Lib.hid hmb
  have HBC := Lib.hid hb0
  clear hka hkb hma hmb hb0 hpl htl hbl hql hrl hsl
  go_upto_region 4 with fail
  go_cut [7, 8] (fun s7 s8 wx => ∃ KX KY xa xc ya yc za zc ua uc va vc oa oc, s7 = .pointer (some ⟨KX, 0, none⟩) ∧ s8 = .pointer (some ⟨KY, 0, none⟩) ∧ Blk 30 KX #[.string ⟨A.name.toArray⟩, .slice xa pl xc, .slice ya tl yc, .int .i64 A.prim, .slice za bl zc, .int .i64 A.at_] wx ∧ Blk 30 KY #[.string ⟨B.name.toArray⟩, .slice ua ql uc, .slice va rl vc, .int .i64 B.prim, .slice oa sl oc, .int .i64 B.at_] wx ∧
    XAt (fun x => x ≠ KX ∧ x ≠ KY ∧ H0 ≤ x) wx A (.slice xa pl xc) (.slice ya tl yc) (.slice za bl zc) ∧ MtAt (fun _ => True) wx B (.slice ua ql uc) (.slice va rl vc) (.slice oa sl oc) ∧ w.heap.size + 2 ≤ KX ∧ w.heap.size + 2 ≤ KY ∧ Below wc.heap.size wc wx)
  case first =>
    have HBW8 : Hid (Below wc.heap.size wc wc.drew) := Lib.hid (Below.refl _ wc).drew
    refine wp_region_noPanic ?_
    refine Hd.start (fun v => (v.cell? ⟨w.heap.size, 0, none⟩ = some (.string ⟨A.name.toArray⟩) ∧ v.cell? ⟨w.heap.size, 1, none⟩ = some (.slice pa pl pc) ∧ v.cell? ⟨w.heap.size, 2, none⟩ = some (.slice ta tl tc) ∧ v.cell? ⟨w.heap.size, 3, none⟩ = some (.int .i64 A.prim) ∧ v.cell? ⟨w.heap.size, 4, none⟩ = some (.slice ba bl bc) ∧ v.cell? ⟨w.heap.size, 5, none⟩ = some (.int .i64 A.at_)) ∧ (v.cell? ⟨(w.heap.size + 1), 0, none⟩ = some (.string ⟨B.name.toArray⟩) ∧ v.cell? ⟨(w.heap.size + 1), 1, none⟩ = some (.slice qa ql qc) ∧ v.cell? ⟨(w.heap.size + 1), 2, none⟩ = some (.slice ra rl rc) ∧ v.cell? ⟨(w.heap.size + 1), 3, none⟩ = some (.int .i64 B.prim) ∧ v.cell? ⟨(w.heap.size + 1), 4, none⟩ = some (.slice sa sl sc) ∧ v.cell? ⟨(w.heap.size + 1), 5, none⟩ = some (.int .i64 B.at_))) (by kernel_rfl) (hS4.out _ HBW8.out) (fun hH0 => ?_)
    generalize hw8 : wc.drew = w8
    rw [hw8] at HBW8 hH0
    clear hw8
    have hs8 := HBW8.out.size
    refine Hd.take 0 1 (oi := ?_) (v := ?_) ?_ (by kernel_rfl) (fun _ _ _ h => h) hH0 ?_ ?_ ?_
    rotate_left 2
    · simp only [List.getElem?_toArray, List.getElem?_cons_zero]
      exact rfl
    · rfl
    · intro w hSw
      (try dsimp only at hSw)
      go_simp
      try with_reducible rfl
    try simp only [Act.put, List.setIfInBounds_toArray, List.set_cons_zero, List.set_cons_succ]
    refine Hd.take 2 3 (oi := ?_) (v := ?_) ?_ (by kernel_rfl) (fun _ _ _ h => h) hH0 ?_ ?_ ?_
    rotate_left 2
    · simp only [List.getElem?_toArray, List.getElem?_cons_succ, List.getElem?_cons_zero]
      exact rfl
    · rfl
    · intro w hSw
      (try dsimp only at hSw)
      go_simp
      try with_reducible rfl
    try simp only [Act.put, List.setIfInBounds_toArray, List.set_cons_zero, List.set_cons_succ]
    refine Hd.three 1 4 5 (o := ?_) (p := ?_) (q := ?_) ?_ ?_ ?_ (by kernel_rfl) (fun K hK => ?_) (fun K hK => ?_) (fun K hK => ?_)
    rotate_left 3
    · simp only [List.getElem?_toArray, List.getElem?_cons_succ, List.getElem?_cons_zero]
      exact rfl
    · simp only [List.getElem?_toArray, List.getElem?_cons_succ, List.getElem?_cons_zero]
      exact rfl
    · simp only [List.getElem?_toArray, List.getElem?_cons_succ, List.getElem?_cons_zero]
      exact rfl
    · skip
      go_simp
      refine (HOX.out _ HBW8.out).mono ?_; rintro e w9 ⟨hbd, xa, xc, ya, yc, za, zc, rfl, hmx⟩
      have HMX9 := Lib.hid hmx
      have hs9 := hbd.size
      have HBW9 := Lib.hid (HBW8.out.trans (hbd.mono HBW8.out.size))
      clear hbd hmx
      go_wp2_with fail
      refine hK.out _ _ (hS4.out _ HBW9.out) (fun hH15 => ?_)
      clear hK K
      try simp only [Act.put, List.setIfInBounds_toArray, List.set_cons_zero, List.set_cons_succ]
      refine Hd.three 3 4 5 (o := ?_) (p := ?_) (q := ?_) ?_ ?_ ?_ (by kernel_rfl) (fun K hK => ?_) (fun K hK => ?_) (fun K hK => ?_)
      rotate_left 3
      · simp only [List.getElem?_toArray, List.getElem?_cons_succ, List.getElem?_cons_zero]
        exact rfl
      · simp only [List.getElem?_toArray, List.getElem?_cons_succ, List.getElem?_cons_zero]
        exact rfl
      · simp only [List.getElem?_toArray, List.getElem?_cons_succ, List.getElem?_cons_zero]
        exact rfl
      · skip
        go_simp
        refine (HOY.out _ HBW9.out).mono ?_; rintro e w10 ⟨hbd, ua, uc, va, vc, oa, oc, rfl, hmx⟩
        have HMY10 := Lib.hid hmx
        have hs10 := hbd.size
        have HMX10 := Lib.hid (HMX9.out.bel hbd)
        have HBW10 := Lib.hid (HBW9.out.trans (hbd.mono HBW9.out.size))
        clear hbd hmx
        go_wp2_with fail
        refine hK.out _ _ (hS4.out _ HBW10.out) (fun hH16 => ?_)
        clear hK K
        try simp only [Act.put, List.setIfInBounds_toArray, List.set_cons_zero, List.set_cons_succ]
        refine Hd.two 4 5 (o := ?_) (p := ?_) ?_ ?_ (by kernel_rfl) (fun K hK => ?_) (fun K hK => ?_)
        rotate_left 2
        · simp only [List.getElem?_toArray, List.getElem?_cons_succ, List.getElem?_cons_zero]
          exact rfl
        · simp only [List.getElem?_toArray, List.getElem?_cons_succ, List.getElem?_cons_zero]
          exact rfl
        · skip
          go_simp
          have hmk := Blk.made (T := 30) (cs := #[.string ⟨#[]⟩, .slice none 0 0, .slice none 0 0, .int .i64 0, .slice none 0 0, .int .i64 0]) w10
          have hbd := alloc_bel w10 (.cells #[.string ⟨#[]⟩, .slice none 0 0, .slice none 0 0, .int .i64 0, .slice none 0 0, .int .i64 0] 30)
          generalize hwv : World.alloc _ _ = w11
          rw [hwv] at hmk hbd
          obtain ⟨KX, hKX⟩ : ∃ k, w10.heap.size = k := ⟨_, rfl⟩
          have hle11 : w10.heap.size ≤ KX := Nat.le_of_eq hKX
          rw [hKX] at hmk ⊢
          have hlt11 := hmk.lt
          have HKX11 := Lib.hid hmk
          have hs11 := hbd.size
          have HMX11 := Lib.hid (HMX10.out.bel hbd)
          have HMY11 := Lib.hid (HMY10.out.bel hbd)
          have HBW11 := Lib.hid (HBW10.out.trans (hbd.mono HBW10.out.size))
          clear hbd hmk hwv hKX
          refine hK.out _ _ (hS4.out _ HBW11.out) (fun hH17 => ?_)
          clear hK K
          try simp only [Act.put, List.setIfInBounds_toArray, List.set_cons_zero, List.set_cons_succ]
          refine Hd.one 5 5 (o := ?_) ?_ (by kernel_rfl) (fun K hK => ?_)
          rotate_left 1
          · simp only [List.getElem?_toArray, List.getElem?_cons_succ, List.getElem?_cons_zero]
            exact rfl
          go_simp
          have hmk := Blk.made (T := 30) (cs := #[.string ⟨#[]⟩, .slice none 0 0, .slice none 0 0, .int .i64 0, .slice none 0 0, .int .i64 0]) w11
          have hbd := alloc_bel w11 (.cells #[.string ⟨#[]⟩, .slice none 0 0, .slice none 0 0, .int .i64 0, .slice none 0 0, .int .i64 0] 30)
          generalize hwv : World.alloc _ _ = w12
          rw [hwv] at hmk hbd
          obtain ⟨KY, hKY⟩ : ∃ k, w11.heap.size = k := ⟨_, rfl⟩
          have hle12 : w11.heap.size ≤ KY := Nat.le_of_eq hKY
          rw [hKY] at hmk ⊢
          have hlt12 := hmk.lt
          have HKY12 := Lib.hid hmk
          have hs12 := hbd.size
          have HMX12 := Lib.hid (HMX11.out.bel hbd)
          have HMY12 := Lib.hid (HMY11.out.bel hbd)
          have HKX12 := Lib.hid (HKX11.out.below hbd HKX11.out.lt)
          have HBW12 := Lib.hid (HBW11.out.trans (hbd.mono HBW11.out.size))
          clear hbd hmk hwv hKY
          refine hK.out _ _ (hS4.out _ HBW12.out) (fun hH18 => ?_)
          clear hK K
          try simp only [Act.put, List.setIfInBounds_toArray, List.set_cons_zero, List.set_cons_succ]
          have e0 := HKX12.out.c 0 _ rfl
          have e1 := HKX12.out.c 1 _ rfl
          have e2 := HKX12.out.c 2 _ rfl
          have e3 := HKX12.out.c 3 _ rfl
          have e4 := HKX12.out.c 4 _ rfl
          have e5 := HKX12.out.c 5 _ rfl
          have ef := HKX12.out.fz
          have el := HKX12.out.lt
          refine Hd.one 6 6 (o := ?_) ?_ (by kernel_rfl) (fun K hK => ?_)
          rotate_left 1
          · simp only [List.getElem?_toArray, List.getElem?_cons_succ, List.getElem?_cons_zero]
            exact rfl
          go_simp
          generalize hwv : World.setCell _ _ _ = w13
          have htwo := two_at hwv
          have HKX13 := Lib.hid (six_at hwv HKX12.out)
          have HKY13 := Lib.hid (htwo.blk HKY12.out (by omega))
          have HMX13 := Lib.hid (HMX12.out.two htwo (fun b hb => by omega))
          have HMY13 := Lib.hid (HMY12.out.two htwo (fun b hb => by omega))
          have HBW13 := Lib.hid (htwo.bel HBW12.out (by omega))
          clear e0 e1 e2 e3 e4 e5 ef el hwv htwo
          refine hK.out _ _ (hS4.out _ HBW13.out) (fun hH19 => ?_)
          clear hK K
          try simp only [Act.put, List.setIfInBounds_toArray, List.set_cons_zero, List.set_cons_succ]
          have e0 := HKY13.out.c 0 _ rfl
          have e1 := HKY13.out.c 1 _ rfl
          have e2 := HKY13.out.c 2 _ rfl
          have e3 := HKY13.out.c 3 _ rfl
          have e4 := HKY13.out.c 4 _ rfl
          have e5 := HKY13.out.c 5 _ rfl
          have ef := HKY13.out.fz
          have el := HKY13.out.lt
          refine Hd.last 7 (o := ?_) ?_ (by kernel_rfl) (by kernel_rfl) (by kernel_rfl) (fun K hK => ?_)
          rotate_left 1
          · simp only [List.getElem?_toArray, List.getElem?_cons_succ, List.getElem?_cons_zero]
            exact rfl
          go_simp
          generalize hwv : World.setCell _ _ _ = w14
          have htwo := two_at hwv
          have HKX14 := Lib.hid (htwo.blk HKX13.out (by omega))
          have HKY14 := Lib.hid (six_at hwv HKY13.out)
          have HMX14 := Lib.hid ((HMX13.out.two htwo (fun b hb => by omega)).mono (S' := fun x => x ≠ KX ∧ x ≠ KY ∧ H0 ≤ x) (fun _ _ _ => by omega))
          have HMY14 := (HMY13.out.two htwo (fun b hb => by omega)).mt
          have HBW14 := Lib.hid (htwo.bel HBW13.out (by omega))
          clear e0 e1 e2 e3 e4 e5 ef el hwv htwo
          refine hK.out _ _ ?_
          clear hK K
          try simp only [Act.put, List.setIfInBounds_toArray, List.set_cons_zero, List.set_cons_succ]
          simp only [NoPanic]
          go_wp2_with fail
          go_meet
          exact ⟨KX, KY, xa, xc, ya, yc, za, zc, ua, uc, va, vc, oa, oc, rfl, rfl, HKX14.out, HKY14.out, HMX14.out, HMY14, by omega, by omega, HBW14.out⟩
        · skip
          go_simp
          have hmk := Blk.made (T := 30) (cs := #[.string ⟨#[]⟩, .slice none 0 0, .slice none 0 0, .int .i64 0, .slice none 0 0, .int .i64 0]) w10
          have hbd := alloc_bel w10 (.cells #[.string ⟨#[]⟩, .slice none 0 0, .slice none 0 0, .int .i64 0, .slice none 0 0, .int .i64 0] 30)
          generalize hwv : World.alloc _ _ = w11
          rw [hwv] at hmk hbd
          obtain ⟨KY, hKY⟩ : ∃ k, w10.heap.size = k := ⟨_, rfl⟩
          have hle11 : w10.heap.size ≤ KY := Nat.le_of_eq hKY
          rw [hKY] at hmk ⊢
          have hlt11 := hmk.lt
          have HKY11 := Lib.hid hmk
          have hs11 := hbd.size
          have HMX11 := Lib.hid (HMX10.out.bel hbd)
          have HMY11 := Lib.hid (HMY10.out.bel hbd)
          have HBW11 := Lib.hid (HBW10.out.trans (hbd.mono HBW10.out.size))
          clear hbd hmk hwv hKY
          refine hK.out _ _ (hS4.out _ HBW11.out) (fun hH20 => ?_)
          clear hK K
          try simp only [Act.put, List.setIfInBounds_toArray, List.set_cons_zero, List.set_cons_succ]
          refine Hd.one 4 4 (o := ?_) ?_ (by kernel_rfl) (fun K hK => ?_)
          rotate_left 1
          · simp only [List.getElem?_toArray, List.getElem?_cons_succ, List.getElem?_cons_zero]
            exact rfl
          go_simp
          have hmk := Blk.made (T := 30) (cs := #[.string ⟨#[]⟩, .slice none 0 0, .slice none 0 0, .int .i64 0, .slice none 0 0, .int .i64 0]) w11
          have hbd := alloc_bel w11 (.cells #[.string ⟨#[]⟩, .slice none 0 0, .slice none 0 0, .int .i64 0, .slice none 0 0, .int .i64 0] 30)
          generalize hwv : World.alloc _ _ = w12
          rw [hwv] at hmk hbd
          obtain ⟨KX, hKX⟩ : ∃ k, w11.heap.size = k := ⟨_, rfl⟩
          have hle12 : w11.heap.size ≤ KX := Nat.le_of_eq hKX
          rw [hKX] at hmk ⊢
          have hlt12 := hmk.lt
          have HKX12 := Lib.hid hmk
          have hs12 := hbd.size
          have HMX12 := Lib.hid (HMX11.out.bel hbd)
          have HMY12 := Lib.hid (HMY11.out.bel hbd)
          have HKY12 := Lib.hid (HKY11.out.below hbd HKY11.out.lt)
          have HBW12 := Lib.hid (HBW11.out.trans (hbd.mono HBW11.out.size))
          clear hbd hmk hwv hKX
          refine hK.out _ _ (hS4.out _ HBW12.out) (fun hH21 => ?_)
          clear hK K
          try simp only [Act.put, List.setIfInBounds_toArray, List.set_cons_zero, List.set_cons_succ]
          have e0 := HKX12.out.c 0 _ rfl
          have e1 := HKX12.out.c 1 _ rfl
          have e2 := HKX12.out.c 2 _ rfl
          have e3 := HKX12.out.c 3 _ rfl
          have e4 := HKX12.out.c 4 _ rfl
          have e5 := HKX12.out.c 5 _ rfl
          have ef := HKX12.out.fz
          have el := HKX12.out.lt
          refine Hd.one 6 6 (o := ?_) ?_ (by kernel_rfl) (fun K hK => ?_)
          rotate_left 1
          · simp only [List.getElem?_toArray, List.getElem?_cons_succ, List.getElem?_cons_zero]
            exact rfl
          go_simp
          generalize hwv : World.setCell _ _ _ = w13
          have htwo := two_at hwv
          have HKX13 := Lib.hid (six_at hwv HKX12.out)
          have HKY13 := Lib.hid (htwo.blk HKY12.out (by omega))
          have HMX13 := Lib.hid (HMX12.out.two htwo (fun b hb => by omega))
          have HMY13 := Lib.hid (HMY12.out.two htwo (fun b hb => by omega))
          have HBW13 := Lib.hid (htwo.bel HBW12.out (by omega))
          clear e0 e1 e2 e3 e4 e5 ef el hwv htwo
          refine hK.out _ _ (hS4.out _ HBW13.out) (fun hH22 => ?_)
          clear hK K
          try simp only [Act.put, List.setIfInBounds_toArray, List.set_cons_zero, List.set_cons_succ]
          have e0 := HKY13.out.c 0 _ rfl
          have e1 := HKY13.out.c 1 _ rfl
          have e2 := HKY13.out.c 2 _ rfl
          have e3 := HKY13.out.c 3 _ rfl
          have e4 := HKY13.out.c 4 _ rfl
          have e5 := HKY13.out.c 5 _ rfl
          have ef := HKY13.out.fz
          have el := HKY13.out.lt
          refine Hd.last 7 (o := ?_) ?_ (by kernel_rfl) (by kernel_rfl) (by kernel_rfl) (fun K hK => ?_)
          rotate_left 1
          · simp only [List.getElem?_toArray, List.getElem?_cons_succ, List.getElem?_cons_zero]
            exact rfl
          go_simp
          generalize hwv : World.setCell _ _ _ = w14
          have htwo := two_at hwv
          have HKX14 := Lib.hid (htwo.blk HKX13.out (by omega))
          have HKY14 := Lib.hid (six_at hwv HKY13.out)
          have HMX14 := Lib.hid ((HMX13.out.two htwo (fun b hb => by omega)).mono (S' := fun x => x ≠ KX ∧ x ≠ KY ∧ H0 ≤ x) (fun _ _ _ => by omega))
          have HMY14 := (HMY13.out.two htwo (fun b hb => by omega)).mt
          have HBW14 := Lib.hid (htwo.bel HBW13.out (by omega))
          clear e0 e1 e2 e3 e4 e5 ef el hwv htwo
          refine hK.out _ _ ?_
          clear hK K
          try simp only [Act.put, List.setIfInBounds_toArray, List.set_cons_zero, List.set_cons_succ]
          simp only [NoPanic]
          go_wp2_with fail
          go_meet
          exact ⟨KX, KY, xa, xc, ya, yc, za, zc, ua, uc, va, vc, oa, oc, rfl, rfl, HKX14.out, HKY14.out, HMX14.out, HMY14, by omega, by omega, HBW14.out⟩
      · skip
        go_simp
        have hmk := Blk.made (T := 30) (cs := #[.string ⟨#[]⟩, .slice none 0 0, .slice none 0 0, .int .i64 0, .slice none 0 0, .int .i64 0]) w9
        have hbd := alloc_bel w9 (.cells #[.string ⟨#[]⟩, .slice none 0 0, .slice none 0 0, .int .i64 0, .slice none 0 0, .int .i64 0] 30)
        generalize hwv : World.alloc _ _ = w10
        rw [hwv] at hmk hbd
        obtain ⟨KX, hKX⟩ : ∃ k, w9.heap.size = k := ⟨_, rfl⟩
        have hle10 : w9.heap.size ≤ KX := Nat.le_of_eq hKX
        rw [hKX] at hmk ⊢
        have hlt10 := hmk.lt
        have HKX10 := Lib.hid hmk
        have hs10 := hbd.size
        have HMX10 := Lib.hid (HMX9.out.bel hbd)
        have HBW10 := Lib.hid (HBW9.out.trans (hbd.mono HBW9.out.size))
        clear hbd hmk hwv hKX
        refine hK.out _ _ (hS4.out _ HBW10.out) (fun hH23 => ?_)
        clear hK K
        try simp only [Act.put, List.setIfInBounds_toArray, List.set_cons_zero, List.set_cons_succ]
        refine Hd.two 3 5 (o := ?_) (p := ?_) ?_ ?_ (by kernel_rfl) (fun K hK => ?_) (fun K hK => ?_)
        rotate_left 2
        · simp only [List.getElem?_toArray, List.getElem?_cons_succ, List.getElem?_cons_zero]
          exact rfl
        · simp only [List.getElem?_toArray, List.getElem?_cons_succ, List.getElem?_cons_zero]
          exact rfl
        · skip
          go_simp
          refine (HOY.out _ HBW10.out).mono ?_; rintro e w11 ⟨hbd, ua, uc, va, vc, oa, oc, rfl, hmx⟩
          have HMY11 := Lib.hid hmx
          have hs11 := hbd.size
          have HMX11 := Lib.hid (HMX10.out.bel hbd)
          have HKX11 := Lib.hid (HKX10.out.below hbd HKX10.out.lt)
          have HBW11 := Lib.hid (HBW10.out.trans (hbd.mono HBW10.out.size))
          clear hbd hmx
          go_wp2_with fail
          refine hK.out _ _ (hS4.out _ HBW11.out) (fun hH24 => ?_)
          clear hK K
          try simp only [Act.put, List.setIfInBounds_toArray, List.set_cons_zero, List.set_cons_succ]
          refine Hd.one 5 5 (o := ?_) ?_ (by kernel_rfl) (fun K hK => ?_)
          rotate_left 1
          · simp only [List.getElem?_toArray, List.getElem?_cons_succ, List.getElem?_cons_zero]
            exact rfl
          go_simp
          have hmk := Blk.made (T := 30) (cs := #[.string ⟨#[]⟩, .slice none 0 0, .slice none 0 0, .int .i64 0, .slice none 0 0, .int .i64 0]) w11
          have hbd := alloc_bel w11 (.cells #[.string ⟨#[]⟩, .slice none 0 0, .slice none 0 0, .int .i64 0, .slice none 0 0, .int .i64 0] 30)
          generalize hwv : World.alloc _ _ = w12
          rw [hwv] at hmk hbd
          obtain ⟨KY, hKY⟩ : ∃ k, w11.heap.size = k := ⟨_, rfl⟩
          have hle12 : w11.heap.size ≤ KY := Nat.le_of_eq hKY
          rw [hKY] at hmk ⊢
          have hlt12 := hmk.lt
          have HKY12 := Lib.hid hmk
          have hs12 := hbd.size
          have HMX12 := Lib.hid (HMX11.out.bel hbd)
          have HMY12 := Lib.hid (HMY11.out.bel hbd)
          have HKX12 := Lib.hid (HKX11.out.below hbd HKX11.out.lt)
          have HBW12 := Lib.hid (HBW11.out.trans (hbd.mono HBW11.out.size))
          clear hbd hmk hwv hKY
          refine hK.out _ _ (hS4.out _ HBW12.out) (fun hH25 => ?_)
          clear hK K
          try simp only [Act.put, List.setIfInBounds_toArray, List.set_cons_zero, List.set_cons_succ]
          have e0 := HKX12.out.c 0 _ rfl
          have e1 := HKX12.out.c 1 _ rfl
          have e2 := HKX12.out.c 2 _ rfl
          have e3 := HKX12.out.c 3 _ rfl
          have e4 := HKX12.out.c 4 _ rfl
          have e5 := HKX12.out.c 5 _ rfl
          have ef := HKX12.out.fz
          have el := HKX12.out.lt
          refine Hd.one 6 6 (o := ?_) ?_ (by kernel_rfl) (fun K hK => ?_)
          rotate_left 1
          · simp only [List.getElem?_toArray, List.getElem?_cons_succ, List.getElem?_cons_zero]
            exact rfl
          go_simp
          generalize hwv : World.setCell _ _ _ = w13
          have htwo := two_at hwv
          have HKX13 := Lib.hid (six_at hwv HKX12.out)
          have HKY13 := Lib.hid (htwo.blk HKY12.out (by omega))
          have HMX13 := Lib.hid (HMX12.out.two htwo (fun b hb => by omega))
          have HMY13 := Lib.hid (HMY12.out.two htwo (fun b hb => by omega))
          have HBW13 := Lib.hid (htwo.bel HBW12.out (by omega))
          clear e0 e1 e2 e3 e4 e5 ef el hwv htwo
          refine hK.out _ _ (hS4.out _ HBW13.out) (fun hH26 => ?_)
          clear hK K
          try simp only [Act.put, List.setIfInBounds_toArray, List.set_cons_zero, List.set_cons_succ]
          have e0 := HKY13.out.c 0 _ rfl
          have e1 := HKY13.out.c 1 _ rfl
          have e2 := HKY13.out.c 2 _ rfl
          have e3 := HKY13.out.c 3 _ rfl
          have e4 := HKY13.out.c 4 _ rfl
          have e5 := HKY13.out.c 5 _ rfl
          have ef := HKY13.out.fz
          have el := HKY13.out.lt
          refine Hd.last 7 (o := ?_) ?_ (by kernel_rfl) (by kernel_rfl) (by kernel_rfl) (fun K hK => ?_)
          rotate_left 1
          · simp only [List.getElem?_toArray, List.getElem?_cons_succ, List.getElem?_cons_zero]
            exact rfl
          go_simp
          generalize hwv : World.setCell _ _ _ = w14
          have htwo := two_at hwv
          have HKX14 := Lib.hid (htwo.blk HKX13.out (by omega))
          have HKY14 := Lib.hid (six_at hwv HKY13.out)
          have HMX14 := Lib.hid ((HMX13.out.two htwo (fun b hb => by omega)).mono (S' := fun x => x ≠ KX ∧ x ≠ KY ∧ H0 ≤ x) (fun _ _ _ => by omega))
          have HMY14 := (HMY13.out.two htwo (fun b hb => by omega)).mt
          have HBW14 := Lib.hid (htwo.bel HBW13.out (by omega))
          clear e0 e1 e2 e3 e4 e5 ef el hwv htwo
          refine hK.out _ _ ?_
          clear hK K
          try simp only [Act.put, List.setIfInBounds_toArray, List.set_cons_zero, List.set_cons_succ]
          simp only [NoPanic]
          go_wp2_with fail
          go_meet
          exact ⟨KX, KY, xa, xc, ya, yc, za, zc, ua, uc, va, vc, oa, oc, rfl, rfl, HKX14.out, HKY14.out, HMX14.out, HMY14, by omega, by omega, HBW14.out⟩
        · skip
          go_simp
          have hmk := Blk.made (T := 30) (cs := #[.string ⟨#[]⟩, .slice none 0 0, .slice none 0 0, .int .i64 0, .slice none 0 0, .int .i64 0]) w10
          have hbd := alloc_bel w10 (.cells #[.string ⟨#[]⟩, .slice none 0 0, .slice none 0 0, .int .i64 0, .slice none 0 0, .int .i64 0] 30)
          generalize hwv : World.alloc _ _ = w11
          rw [hwv] at hmk hbd
          obtain ⟨KY, hKY⟩ : ∃ k, w10.heap.size = k := ⟨_, rfl⟩
          have hle11 : w10.heap.size ≤ KY := Nat.le_of_eq hKY
          rw [hKY] at hmk ⊢
          have hlt11 := hmk.lt
          have HKY11 := Lib.hid hmk
          have hs11 := hbd.size
          have HMX11 := Lib.hid (HMX10.out.bel hbd)
          have HKX11 := Lib.hid (HKX10.out.below hbd HKX10.out.lt)
          have HBW11 := Lib.hid (HBW10.out.trans (hbd.mono HBW10.out.size))
          clear hbd hmk hwv hKY
          refine hK.out _ _ (hS4.out _ HBW11.out) (fun hH27 => ?_)
          clear hK K
          try simp only [Act.put, List.setIfInBounds_toArray, List.set_cons_zero, List.set_cons_succ]
          refine Hd.one 3 3 (o := ?_) ?_ (by kernel_rfl) (fun K hK => ?_)
          rotate_left 1
          · simp only [List.getElem?_toArray, List.getElem?_cons_succ, List.getElem?_cons_zero]
            exact rfl
          go_simp
          refine (HOY.out _ HBW11.out).mono ?_; rintro e w12 ⟨hbd, ua, uc, va, vc, oa, oc, rfl, hmx⟩
          have HMY12 := Lib.hid hmx
          have hs12 := hbd.size
          have HMX12 := Lib.hid (HMX11.out.bel hbd)
          have HKX12 := Lib.hid (HKX11.out.below hbd HKX11.out.lt)
          have HKY12 := Lib.hid (HKY11.out.below hbd HKY11.out.lt)
          have HBW12 := Lib.hid (HBW11.out.trans (hbd.mono HBW11.out.size))
          clear hbd hmx
          go_wp2_with fail
          refine hK.out _ _ (hS4.out _ HBW12.out) (fun hH28 => ?_)
          clear hK K
          try simp only [Act.put, List.setIfInBounds_toArray, List.set_cons_zero, List.set_cons_succ]
          have e0 := HKX12.out.c 0 _ rfl
          have e1 := HKX12.out.c 1 _ rfl
          have e2 := HKX12.out.c 2 _ rfl
          have e3 := HKX12.out.c 3 _ rfl
          have e4 := HKX12.out.c 4 _ rfl
          have e5 := HKX12.out.c 5 _ rfl
          have ef := HKX12.out.fz
          have el := HKX12.out.lt
          refine Hd.one 6 6 (o := ?_) ?_ (by kernel_rfl) (fun K hK => ?_)
          rotate_left 1
          · simp only [List.getElem?_toArray, List.getElem?_cons_succ, List.getElem?_cons_zero]
            exact rfl
          go_simp
          generalize hwv : World.setCell _ _ _ = w13
          have htwo := two_at hwv
          have HKX13 := Lib.hid (six_at hwv HKX12.out)
          have HKY13 := Lib.hid (htwo.blk HKY12.out (by omega))
          have HMX13 := Lib.hid (HMX12.out.two htwo (fun b hb => by omega))
          have HMY13 := Lib.hid (HMY12.out.two htwo (fun b hb => by omega))
          have HBW13 := Lib.hid (htwo.bel HBW12.out (by omega))
          clear e0 e1 e2 e3 e4 e5 ef el hwv htwo
          refine hK.out _ _ (hS4.out _ HBW13.out) (fun hH29 => ?_)
          clear hK K
          try simp only [Act.put, List.setIfInBounds_toArray, List.set_cons_zero, List.set_cons_succ]
          have e0 := HKY13.out.c 0 _ rfl
          have e1 := HKY13.out.c 1 _ rfl
          have e2 := HKY13.out.c 2 _ rfl
          have e3 := HKY13.out.c 3 _ rfl
          have e4 := HKY13.out.c 4 _ rfl
          have e5 := HKY13.out.c 5 _ rfl
          have ef := HKY13.out.fz
          have el := HKY13.out.lt
          refine Hd.last 7 (o := ?_) ?_ (by kernel_rfl) (by kernel_rfl) (by kernel_rfl) (fun K hK => ?_)
          rotate_left 1
          · simp only [List.getElem?_toArray, List.getElem?_cons_succ, List.getElem?_cons_zero]
            exact rfl
          go_simp
          generalize hwv : World.setCell _ _ _ = w14
          have htwo := two_at hwv
          have HKX14 := Lib.hid (htwo.blk HKX13.out (by omega))
          have HKY14 := Lib.hid (six_at hwv HKY13.out)
          have HMX14 := Lib.hid ((HMX13.out.two htwo (fun b hb => by omega)).mono (S' := fun x => x ≠ KX ∧ x ≠ KY ∧ H0 ≤ x) (fun _ _ _ => by omega))
          have HMY14 := (HMY13.out.two htwo (fun b hb => by omega)).mt
          have HBW14 := Lib.hid (htwo.bel HBW13.out (by omega))
          clear e0 e1 e2 e3 e4 e5 ef el hwv htwo
          refine hK.out _ _ ?_
          clear hK K
          try simp only [Act.put, List.setIfInBounds_toArray, List.set_cons_zero, List.set_cons_succ]
          simp only [NoPanic]
          go_wp2_with fail
          go_meet
          exact ⟨KX, KY, xa, xc, ya, yc, za, zc, ua, uc, va, vc, oa, oc, rfl, rfl, HKX14.out, HKY14.out, HMX14.out, HMY14, by omega, by omega, HBW14.out⟩
      · skip
        go_simp
        have hmk := Blk.made (T := 30) (cs := #[.string ⟨#[]⟩, .slice none 0 0, .slice none 0 0, .int .i64 0, .slice none 0 0, .int .i64 0]) w9
        have hbd := alloc_bel w9 (.cells #[.string ⟨#[]⟩, .slice none 0 0, .slice none 0 0, .int .i64 0, .slice none 0 0, .int .i64 0] 30)
        generalize hwv : World.alloc _ _ = w10
        rw [hwv] at hmk hbd
        obtain ⟨KY, hKY⟩ : ∃ k, w9.heap.size = k := ⟨_, rfl⟩
        have hle10 : w9.heap.size ≤ KY := Nat.le_of_eq hKY
        rw [hKY] at hmk ⊢
        have hlt10 := hmk.lt
        have HKY10 := Lib.hid hmk
        have hs10 := hbd.size
        have HMX10 := Lib.hid (HMX9.out.bel hbd)
        have HBW10 := Lib.hid (HBW9.out.trans (hbd.mono HBW9.out.size))
        clear hbd hmk hwv hKY
        refine hK.out _ _ (hS4.out _ HBW10.out) (fun hH30 => ?_)
        clear hK K
        try simp only [Act.put, List.setIfInBounds_toArray, List.set_cons_zero, List.set_cons_succ]
        refine Hd.two 3 4 (o := ?_) (p := ?_) ?_ ?_ (by kernel_rfl) (fun K hK => ?_) (fun K hK => ?_)
        rotate_left 2
        · simp only [List.getElem?_toArray, List.getElem?_cons_succ, List.getElem?_cons_zero]
          exact rfl
        · simp only [List.getElem?_toArray, List.getElem?_cons_succ, List.getElem?_cons_zero]
          exact rfl
        · skip
          go_simp
          refine (HOY.out _ HBW10.out).mono ?_; rintro e w11 ⟨hbd, ua, uc, va, vc, oa, oc, rfl, hmx⟩
          have HMY11 := Lib.hid hmx
          have hs11 := hbd.size
          have HMX11 := Lib.hid (HMX10.out.bel hbd)
          have HKY11 := Lib.hid (HKY10.out.below hbd HKY10.out.lt)
          have HBW11 := Lib.hid (HBW10.out.trans (hbd.mono HBW10.out.size))
          clear hbd hmx
          go_wp2_with fail
          refine hK.out _ _ (hS4.out _ HBW11.out) (fun hH31 => ?_)
          clear hK K
          try simp only [Act.put, List.setIfInBounds_toArray, List.set_cons_zero, List.set_cons_succ]
          refine Hd.one 4 4 (o := ?_) ?_ (by kernel_rfl) (fun K hK => ?_)
          rotate_left 1
          · simp only [List.getElem?_toArray, List.getElem?_cons_succ, List.getElem?_cons_zero]
            exact rfl
          go_simp
          have hmk := Blk.made (T := 30) (cs := #[.string ⟨#[]⟩, .slice none 0 0, .slice none 0 0, .int .i64 0, .slice none 0 0, .int .i64 0]) w11
          have hbd := alloc_bel w11 (.cells #[.string ⟨#[]⟩, .slice none 0 0, .slice none 0 0, .int .i64 0, .slice none 0 0, .int .i64 0] 30)
          generalize hwv : World.alloc _ _ = w12
          rw [hwv] at hmk hbd
          obtain ⟨KX, hKX⟩ : ∃ k, w11.heap.size = k := ⟨_, rfl⟩
          have hle12 : w11.heap.size ≤ KX := Nat.le_of_eq hKX
          rw [hKX] at hmk ⊢
          have hlt12 := hmk.lt
          have HKX12 := Lib.hid hmk
          have hs12 := hbd.size
          have HMX12 := Lib.hid (HMX11.out.bel hbd)
          have HMY12 := Lib.hid (HMY11.out.bel hbd)
          have HKY12 := Lib.hid (HKY11.out.below hbd HKY11.out.lt)
          have HBW12 := Lib.hid (HBW11.out.trans (hbd.mono HBW11.out.size))
          clear hbd hmk hwv hKX
          refine hK.out _ _ (hS4.out _ HBW12.out) (fun hH32 => ?_)
          clear hK K
          try simp only [Act.put, List.setIfInBounds_toArray, List.set_cons_zero, List.set_cons_succ]
          have e0 := HKX12.out.c 0 _ rfl
          have e1 := HKX12.out.c 1 _ rfl
          have e2 := HKX12.out.c 2 _ rfl
          have e3 := HKX12.out.c 3 _ rfl
          have e4 := HKX12.out.c 4 _ rfl
          have e5 := HKX12.out.c 5 _ rfl
          have ef := HKX12.out.fz
          have el := HKX12.out.lt
          refine Hd.one 6 6 (o := ?_) ?_ (by kernel_rfl) (fun K hK => ?_)
          rotate_left 1
          · simp only [List.getElem?_toArray, List.getElem?_cons_succ, List.getElem?_cons_zero]
            exact rfl
          go_simp
          generalize hwv : World.setCell _ _ _ = w13
          have htwo := two_at hwv
          have HKX13 := Lib.hid (six_at hwv HKX12.out)
          have HKY13 := Lib.hid (htwo.blk HKY12.out (by omega))
          have HMX13 := Lib.hid (HMX12.out.two htwo (fun b hb => by omega))
          have HMY13 := Lib.hid (HMY12.out.two htwo (fun b hb => by omega))
          have HBW13 := Lib.hid (htwo.bel HBW12.out (by omega))
          clear e0 e1 e2 e3 e4 e5 ef el hwv htwo
          refine hK.out _ _ (hS4.out _ HBW13.out) (fun hH33 => ?_)
          clear hK K
          try simp only [Act.put, List.setIfInBounds_toArray, List.set_cons_zero, List.set_cons_succ]
          have e0 := HKY13.out.c 0 _ rfl
          have e1 := HKY13.out.c 1 _ rfl
          have e2 := HKY13.out.c 2 _ rfl
          have e3 := HKY13.out.c 3 _ rfl
          have e4 := HKY13.out.c 4 _ rfl
          have e5 := HKY13.out.c 5 _ rfl
          have ef := HKY13.out.fz
          have el := HKY13.out.lt
          refine Hd.last 7 (o := ?_) ?_ (by kernel_rfl) (by kernel_rfl) (by kernel_rfl) (fun K hK => ?_)
          rotate_left 1
          · simp only [List.getElem?_toArray, List.getElem?_cons_succ, List.getElem?_cons_zero]
            exact rfl
          go_simp
          generalize hwv : World.setCell _ _ _ = w14
          have htwo := two_at hwv
          have HKX14 := Lib.hid (htwo.blk HKX13.out (by omega))
          have HKY14 := Lib.hid (six_at hwv HKY13.out)
          have HMX14 := Lib.hid ((HMX13.out.two htwo (fun b hb => by omega)).mono (S' := fun x => x ≠ KX ∧ x ≠ KY ∧ H0 ≤ x) (fun _ _ _ => by omega))
          have HMY14 := (HMY13.out.two htwo (fun b hb => by omega)).mt
          have HBW14 := Lib.hid (htwo.bel HBW13.out (by omega))
          clear e0 e1 e2 e3 e4 e5 ef el hwv htwo
          refine hK.out _ _ ?_
          clear hK K
          try simp only [Act.put, List.setIfInBounds_toArray, List.set_cons_zero, List.set_cons_succ]
          simp only [NoPanic]
          go_wp2_with fail
          go_meet
          exact ⟨KX, KY, xa, xc, ya, yc, za, zc, ua, uc, va, vc, oa, oc, rfl, rfl, HKX14.out, HKY14.out, HMX14.out, HMY14, by omega, by omega, HBW14.out⟩
        · skip
          go_simp
          have hmk := Blk.made (T := 30) (cs := #[.string ⟨#[]⟩, .slice none 0 0, .slice none 0 0, .int .i64 0, .slice none 0 0, .int .i64 0]) w10
          have hbd := alloc_bel w10 (.cells #[.string ⟨#[]⟩, .slice none 0 0, .slice none 0 0, .int .i64 0, .slice none 0 0, .int .i64 0] 30)
          generalize hwv : World.alloc _ _ = w11
          rw [hwv] at hmk hbd
          obtain ⟨KX, hKX⟩ : ∃ k, w10.heap.size = k := ⟨_, rfl⟩
          have hle11 : w10.heap.size ≤ KX := Nat.le_of_eq hKX
          rw [hKX] at hmk ⊢
          have hlt11 := hmk.lt
          have HKX11 := Lib.hid hmk
          have hs11 := hbd.size
          have HMX11 := Lib.hid (HMX10.out.bel hbd)
          have HKY11 := Lib.hid (HKY10.out.below hbd HKY10.out.lt)
          have HBW11 := Lib.hid (HBW10.out.trans (hbd.mono HBW10.out.size))
          clear hbd hmk hwv hKX
          refine hK.out _ _ (hS4.out _ HBW11.out) (fun hH34 => ?_)
          clear hK K
          try simp only [Act.put, List.setIfInBounds_toArray, List.set_cons_zero, List.set_cons_succ]
          refine Hd.one 3 3 (o := ?_) ?_ (by kernel_rfl) (fun K hK => ?_)
          rotate_left 1
          · simp only [List.getElem?_toArray, List.getElem?_cons_succ, List.getElem?_cons_zero]
            exact rfl
          go_simp
          refine (HOY.out _ HBW11.out).mono ?_; rintro e w12 ⟨hbd, ua, uc, va, vc, oa, oc, rfl, hmx⟩
          have HMY12 := Lib.hid hmx
          have hs12 := hbd.size
          have HMX12 := Lib.hid (HMX11.out.bel hbd)
          have HKX12 := Lib.hid (HKX11.out.below hbd HKX11.out.lt)
          have HKY12 := Lib.hid (HKY11.out.below hbd HKY11.out.lt)
          have HBW12 := Lib.hid (HBW11.out.trans (hbd.mono HBW11.out.size))
          clear hbd hmx
          go_wp2_with fail
          refine hK.out _ _ (hS4.out _ HBW12.out) (fun hH35 => ?_)
          clear hK K
          try simp only [Act.put, List.setIfInBounds_toArray, List.set_cons_zero, List.set_cons_succ]
          have e0 := HKX12.out.c 0 _ rfl
          have e1 := HKX12.out.c 1 _ rfl
          have e2 := HKX12.out.c 2 _ rfl
          have e3 := HKX12.out.c 3 _ rfl
          have e4 := HKX12.out.c 4 _ rfl
          have e5 := HKX12.out.c 5 _ rfl
          have ef := HKX12.out.fz
          have el := HKX12.out.lt
          refine Hd.one 6 6 (o := ?_) ?_ (by kernel_rfl) (fun K hK => ?_)
          rotate_left 1
          · simp only [List.getElem?_toArray, List.getElem?_cons_succ, List.getElem?_cons_zero]
            exact rfl
          go_simp
          generalize hwv : World.setCell _ _ _ = w13
          have htwo := two_at hwv
          have HKX13 := Lib.hid (six_at hwv HKX12.out)
          have HKY13 := Lib.hid (htwo.blk HKY12.out (by omega))
          have HMX13 := Lib.hid (HMX12.out.two htwo (fun b hb => by omega))
          have HMY13 := Lib.hid (HMY12.out.two htwo (fun b hb => by omega))
          have HBW13 := Lib.hid (htwo.bel HBW12.out (by omega))
          clear e0 e1 e2 e3 e4 e5 ef el hwv htwo
          refine hK.out _ _ (hS4.out _ HBW13.out) (fun hH36 => ?_)
          clear hK K
          try simp only [Act.put, List.setIfInBounds_toArray, List.set_cons_zero, List.set_cons_succ]
          have e0 := HKY13.out.c 0 _ rfl
          have e1 := HKY13.out.c 1 _ rfl
          have e2 := HKY13.out.c 2 _ rfl
          have e3 := HKY13.out.c 3 _ rfl
          have e4 := HKY13.out.c 4 _ rfl
          have e5 := HKY13.out.c 5 _ rfl
          have ef := HKY13.out.fz
          have el := HKY13.out.lt
          refine Hd.last 7 (o := ?_) ?_ (by kernel_rfl) (by kernel_rfl) (by kernel_rfl) (fun K hK => ?_)
          rotate_left 1
          · simp only [List.getElem?_toArray, List.getElem?_cons_succ, List.getElem?_cons_zero]
            exact rfl
          go_simp
          generalize hwv : World.setCell _ _ _ = w14
          have htwo := two_at hwv
          have HKX14 := Lib.hid (htwo.blk HKX13.out (by omega))
          have HKY14 := Lib.hid (six_at hwv HKY13.out)
          have HMX14 := Lib.hid ((HMX13.out.two htwo (fun b hb => by omega)).mono (S' := fun x => x ≠ KX ∧ x ≠ KY ∧ H0 ≤ x) (fun _ _ _ => by omega))
          have HMY14 := (HMY13.out.two htwo (fun b hb => by omega)).mt
          have HBW14 := Lib.hid (htwo.bel HBW13.out (by omega))
          clear e0 e1 e2 e3 e4 e5 ef el hwv htwo
          refine hK.out _ _ ?_
          clear hK K
          try simp only [Act.put, List.setIfInBounds_toArray, List.set_cons_zero, List.set_cons_succ]
          simp only [NoPanic]
          go_wp2_with fail
          go_meet
          exact ⟨KX, KY, xa, xc, ya, yc, za, zc, ua, uc, va, vc, oa, oc, rfl, rfl, HKX14.out, HKY14.out, HMX14.out, HMY14, by omega, by omega, HBW14.out⟩
    · skip
      go_simp
      have hmk := Blk.made (T := 30) (cs := #[.string ⟨#[]⟩, .slice none 0 0, .slice none 0 0, .int .i64 0, .slice none 0 0, .int .i64 0]) w8
      have hbd := alloc_bel w8 (.cells #[.string ⟨#[]⟩, .slice none 0 0, .slice none 0 0, .int .i64 0, .slice none 0 0, .int .i64 0] 30)
      generalize hwv : World.alloc _ _ = w9
      rw [hwv] at hmk hbd
      obtain ⟨KX, hKX⟩ : ∃ k, w8.heap.size = k := ⟨_, rfl⟩
      have hle9 : w8.heap.size ≤ KX := Nat.le_of_eq hKX
      rw [hKX] at hmk ⊢
      have hlt9 := hmk.lt
      have HKX9 := Lib.hid hmk
      have hs9 := hbd.size
      have HBW9 := Lib.hid (HBW8.out.trans (hbd.mono HBW8.out.size))
      clear hbd hmk hwv hKX
      refine hK.out _ _ (hS4.out _ HBW9.out) (fun hH37 => ?_)
      clear hK K
      try simp only [Act.put, List.setIfInBounds_toArray, List.set_cons_zero, List.set_cons_succ]
      refine Hd.two 1 5 (o := ?_) (p := ?_) ?_ ?_ (by kernel_rfl) (fun K hK => ?_) (fun K hK => ?_)
      rotate_left 2
      · simp only [List.getElem?_toArray, List.getElem?_cons_succ, List.getElem?_cons_zero]
        exact rfl
      · simp only [List.getElem?_toArray, List.getElem?_cons_succ, List.getElem?_cons_zero]
        exact rfl
      · skip
        go_simp
        refine (HOX.out _ HBW9.out).mono ?_; rintro e w10 ⟨hbd, xa, xc, ya, yc, za, zc, rfl, hmx⟩
        have HMX10 := Lib.hid hmx
        have hs10 := hbd.size
        have HKX10 := Lib.hid (HKX9.out.below hbd HKX9.out.lt)
        have HBW10 := Lib.hid (HBW9.out.trans (hbd.mono HBW9.out.size))
        clear hbd hmx
        go_wp2_with fail
        refine hK.out _ _ (hS4.out _ HBW10.out) (fun hH38 => ?_)
        clear hK K
        try simp only [Act.put, List.setIfInBounds_toArray, List.set_cons_zero, List.set_cons_succ]
        refine Hd.two 3 5 (o := ?_) (p := ?_) ?_ ?_ (by kernel_rfl) (fun K hK => ?_) (fun K hK => ?_)
        rotate_left 2
        · simp only [List.getElem?_toArray, List.getElem?_cons_succ, List.getElem?_cons_zero]
          exact rfl
        · simp only [List.getElem?_toArray, List.getElem?_cons_succ, List.getElem?_cons_zero]
          exact rfl
        · skip
          go_simp
          refine (HOY.out _ HBW10.out).mono ?_; rintro e w11 ⟨hbd, ua, uc, va, vc, oa, oc, rfl, hmx⟩
          have HMY11 := Lib.hid hmx
          have hs11 := hbd.size
          have HMX11 := Lib.hid (HMX10.out.bel hbd)
          have HKX11 := Lib.hid (HKX10.out.below hbd HKX10.out.lt)
          have HBW11 := Lib.hid (HBW10.out.trans (hbd.mono HBW10.out.size))
          clear hbd hmx
          go_wp2_with fail
          refine hK.out _ _ (hS4.out _ HBW11.out) (fun hH39 => ?_)
          clear hK K
          try simp only [Act.put, List.setIfInBounds_toArray, List.set_cons_zero, List.set_cons_succ]
          refine Hd.one 5 5 (o := ?_) ?_ (by kernel_rfl) (fun K hK => ?_)
          rotate_left 1
          · simp only [List.getElem?_toArray, List.getElem?_cons_succ, List.getElem?_cons_zero]
            exact rfl
          go_simp
          have hmk := Blk.made (T := 30) (cs := #[.string ⟨#[]⟩, .slice none 0 0, .slice none 0 0, .int .i64 0, .slice none 0 0, .int .i64 0]) w11
          have hbd := alloc_bel w11 (.cells #[.string ⟨#[]⟩, .slice none 0 0, .slice none 0 0, .int .i64 0, .slice none 0 0, .int .i64 0] 30)
          generalize hwv : World.alloc _ _ = w12
          rw [hwv] at hmk hbd
          obtain ⟨KY, hKY⟩ : ∃ k, w11.heap.size = k := ⟨_, rfl⟩
          have hle12 : w11.heap.size ≤ KY := Nat.le_of_eq hKY
          rw [hKY] at hmk ⊢
          have hlt12 := hmk.lt
          have HKY12 := Lib.hid hmk
          have hs12 := hbd.size
          have HMX12 := Lib.hid (HMX11.out.bel hbd)
          have HMY12 := Lib.hid (HMY11.out.bel hbd)
          have HKX12 := Lib.hid (HKX11.out.below hbd HKX11.out.lt)
          have HBW12 := Lib.hid (HBW11.out.trans (hbd.mono HBW11.out.size))
          clear hbd hmk hwv hKY
          refine hK.out _ _ (hS4.out _ HBW12.out) (fun hH40 => ?_)
          clear hK K
          try simp only [Act.put, List.setIfInBounds_toArray, List.set_cons_zero, List.set_cons_succ]
          have e0 := HKX12.out.c 0 _ rfl
          have e1 := HKX12.out.c 1 _ rfl
          have e2 := HKX12.out.c 2 _ rfl
          have e3 := HKX12.out.c 3 _ rfl
          have e4 := HKX12.out.c 4 _ rfl
          have e5 := HKX12.out.c 5 _ rfl
          have ef := HKX12.out.fz
          have el := HKX12.out.lt
          refine Hd.one 6 6 (o := ?_) ?_ (by kernel_rfl) (fun K hK => ?_)
          rotate_left 1
          · simp only [List.getElem?_toArray, List.getElem?_cons_succ, List.getElem?_cons_zero]
            exact rfl
          go_simp
          generalize hwv : World.setCell _ _ _ = w13
          have htwo := two_at hwv
          have HKX13 := Lib.hid (six_at hwv HKX12.out)
          have HKY13 := Lib.hid (htwo.blk HKY12.out (by omega))
          have HMX13 := Lib.hid (HMX12.out.two htwo (fun b hb => by omega))
          have HMY13 := Lib.hid (HMY12.out.two htwo (fun b hb => by omega))
          have HBW13 := Lib.hid (htwo.bel HBW12.out (by omega))
          clear e0 e1 e2 e3 e4 e5 ef el hwv htwo
          refine hK.out _ _ (hS4.out _ HBW13.out) (fun hH41 => ?_)
          clear hK K
          try simp only [Act.put, List.setIfInBounds_toArray, List.set_cons_zero, List.set_cons_succ]
          have e0 := HKY13.out.c 0 _ rfl
          have e1 := HKY13.out.c 1 _ rfl
          have e2 := HKY13.out.c 2 _ rfl
          have e3 := HKY13.out.c 3 _ rfl
          have e4 := HKY13.out.c 4 _ rfl
          have e5 := HKY13.out.c 5 _ rfl
          have ef := HKY13.out.fz
          have el := HKY13.out.lt
          refine Hd.last 7 (o := ?_) ?_ (by kernel_rfl) (by kernel_rfl) (by kernel_rfl) (fun K hK => ?_)
          rotate_left 1
          · simp only [List.getElem?_toArray, List.getElem?_cons_succ, List.getElem?_cons_zero]
            exact rfl
          go_simp
          generalize hwv : World.setCell _ _ _ = w14
          have htwo := two_at hwv
          have HKX14 := Lib.hid (htwo.blk HKX13.out (by omega))
          have HKY14 := Lib.hid (six_at hwv HKY13.out)
          have HMX14 := Lib.hid ((HMX13.out.two htwo (fun b hb => by omega)).mono (S' := fun x => x ≠ KX ∧ x ≠ KY ∧ H0 ≤ x) (fun _ _ _ => by omega))
          have HMY14 := (HMY13.out.two htwo (fun b hb => by omega)).mt
          have HBW14 := Lib.hid (htwo.bel HBW13.out (by omega))
          clear e0 e1 e2 e3 e4 e5 ef el hwv htwo
          refine hK.out _ _ ?_
          clear hK K
          try simp only [Act.put, List.setIfInBounds_toArray, List.set_cons_zero, List.set_cons_succ]
          simp only [NoPanic]
          go_wp2_with fail
          go_meet
          exact ⟨KX, KY, xa, xc, ya, yc, za, zc, ua, uc, va, vc, oa, oc, rfl, rfl, HKX14.out, HKY14.out, HMX14.out, HMY14, by omega, by omega, HBW14.out⟩
        · skip
          go_simp
          have hmk := Blk.made (T := 30) (cs := #[.string ⟨#[]⟩, .slice none 0 0, .slice none 0 0, .int .i64 0, .slice none 0 0, .int .i64 0]) w10
          have hbd := alloc_bel w10 (.cells #[.string ⟨#[]⟩, .slice none 0 0, .slice none 0 0, .int .i64 0, .slice none 0 0, .int .i64 0] 30)
          generalize hwv : World.alloc _ _ = w11
          rw [hwv] at hmk hbd
          obtain ⟨KY, hKY⟩ : ∃ k, w10.heap.size = k := ⟨_, rfl⟩
          have hle11 : w10.heap.size ≤ KY := Nat.le_of_eq hKY
          rw [hKY] at hmk ⊢
          have hlt11 := hmk.lt
          have HKY11 := Lib.hid hmk
          have hs11 := hbd.size
          have HMX11 := Lib.hid (HMX10.out.bel hbd)
          have HKX11 := Lib.hid (HKX10.out.below hbd HKX10.out.lt)
          have HBW11 := Lib.hid (HBW10.out.trans (hbd.mono HBW10.out.size))
          clear hbd hmk hwv hKY
          refine hK.out _ _ (hS4.out _ HBW11.out) (fun hH42 => ?_)
          clear hK K
          try simp only [Act.put, List.setIfInBounds_toArray, List.set_cons_zero, List.set_cons_succ]
          refine Hd.one 3 3 (o := ?_) ?_ (by kernel_rfl) (fun K hK => ?_)
          rotate_left 1
          · simp only [List.getElem?_toArray, List.getElem?_cons_succ, List.getElem?_cons_zero]
            exact rfl
          go_simp
          refine (HOY.out _ HBW11.out).mono ?_; rintro e w12 ⟨hbd, ua, uc, va, vc, oa, oc, rfl, hmx⟩
          have HMY12 := Lib.hid hmx
          have hs12 := hbd.size
          have HMX12 := Lib.hid (HMX11.out.bel hbd)
          have HKX12 := Lib.hid (HKX11.out.below hbd HKX11.out.lt)
          have HKY12 := Lib.hid (HKY11.out.below hbd HKY11.out.lt)
          have HBW12 := Lib.hid (HBW11.out.trans (hbd.mono HBW11.out.size))
          clear hbd hmx
          go_wp2_with fail
          refine hK.out _ _ (hS4.out _ HBW12.out) (fun hH43 => ?_)
          clear hK K
          try simp only [Act.put, List.setIfInBounds_toArray, List.set_cons_zero, List.set_cons_succ]
          have e0 := HKX12.out.c 0 _ rfl
          have e1 := HKX12.out.c 1 _ rfl
          have e2 := HKX12.out.c 2 _ rfl
          have e3 := HKX12.out.c 3 _ rfl
          have e4 := HKX12.out.c 4 _ rfl
          have e5 := HKX12.out.c 5 _ rfl
          have ef := HKX12.out.fz
          have el := HKX12.out.lt
          refine Hd.one 6 6 (o := ?_) ?_ (by kernel_rfl) (fun K hK => ?_)
          rotate_left 1
          · simp only [List.getElem?_toArray, List.getElem?_cons_succ, List.getElem?_cons_zero]
            exact rfl
          go_simp
          generalize hwv : World.setCell _ _ _ = w13
          have htwo := two_at hwv
          have HKX13 := Lib.hid (six_at hwv HKX12.out)
          have HKY13 := Lib.hid (htwo.blk HKY12.out (by omega))
          have HMX13 := Lib.hid (HMX12.out.two htwo (fun b hb => by omega))
          have HMY13 := Lib.hid (HMY12.out.two htwo (fun b hb => by omega))
          have HBW13 := Lib.hid (htwo.bel HBW12.out (by omega))
          clear e0 e1 e2 e3 e4 e5 ef el hwv htwo
          refine hK.out _ _ (hS4.out _ HBW13.out) (fun hH44 => ?_)
          clear hK K
          try simp only [Act.put, List.setIfInBounds_toArray, List.set_cons_zero, List.set_cons_succ]
          have e0 := HKY13.out.c 0 _ rfl
          have e1 := HKY13.out.c 1 _ rfl
          have e2 := HKY13.out.c 2 _ rfl
          have e3 := HKY13.out.c 3 _ rfl
          have e4 := HKY13.out.c 4 _ rfl
          have e5 := HKY13.out.c 5 _ rfl
          have ef := HKY13.out.fz
          have el := HKY13.out.lt
          refine Hd.last 7 (o := ?_) ?_ (by kernel_rfl) (by kernel_rfl) (by kernel_rfl) (fun K hK => ?_)
          rotate_left 1
          · simp only [List.getElem?_toArray, List.getElem?_cons_succ, List.getElem?_cons_zero]
            exact rfl
          go_simp
          generalize hwv : World.setCell _ _ _ = w14
          have htwo := two_at hwv
          have HKX14 := Lib.hid (htwo.blk HKX13.out (by omega))
          have HKY14 := Lib.hid (six_at hwv HKY13.out)
          have HMX14 := Lib.hid ((HMX13.out.two htwo (fun b hb => by omega)).mono (S' := fun x => x ≠ KX ∧ x ≠ KY ∧ H0 ≤ x) (fun _ _ _ => by omega))
          have HMY14 := (HMY13.out.two htwo (fun b hb => by omega)).mt
          have HBW14 := Lib.hid (htwo.bel HBW13.out (by omega))
          clear e0 e1 e2 e3 e4 e5 ef el hwv htwo
          refine hK.out _ _ ?_
          clear hK K
          try simp only [Act.put, List.setIfInBounds_toArray, List.set_cons_zero, List.set_cons_succ]
          simp only [NoPanic]
          go_wp2_with fail
          go_meet
          exact ⟨KX, KY, xa, xc, ya, yc, za, zc, ua, uc, va, vc, oa, oc, rfl, rfl, HKX14.out, HKY14.out, HMX14.out, HMY14, by omega, by omega, HBW14.out⟩
      · skip
        go_simp
        have hmk := Blk.made (T := 30) (cs := #[.string ⟨#[]⟩, .slice none 0 0, .slice none 0 0, .int .i64 0, .slice none 0 0, .int .i64 0]) w9
        have hbd := alloc_bel w9 (.cells #[.string ⟨#[]⟩, .slice none 0 0, .slice none 0 0, .int .i64 0, .slice none 0 0, .int .i64 0] 30)
        generalize hwv : World.alloc _ _ = w10
        rw [hwv] at hmk hbd
        obtain ⟨KY, hKY⟩ : ∃ k, w9.heap.size = k := ⟨_, rfl⟩
        have hle10 : w9.heap.size ≤ KY := Nat.le_of_eq hKY
        rw [hKY] at hmk ⊢
        have hlt10 := hmk.lt
        have HKY10 := Lib.hid hmk
        have hs10 := hbd.size
        have HKX10 := Lib.hid (HKX9.out.below hbd HKX9.out.lt)
        have HBW10 := Lib.hid (HBW9.out.trans (hbd.mono HBW9.out.size))
        clear hbd hmk hwv hKY
        refine hK.out _ _ (hS4.out _ HBW10.out) (fun hH45 => ?_)
        clear hK K
        try simp only [Act.put, List.setIfInBounds_toArray, List.set_cons_zero, List.set_cons_succ]
        refine Hd.one 1 1 (o := ?_) ?_ (by kernel_rfl) (fun K hK => ?_)
        rotate_left 1
        · simp only [List.getElem?_toArray, List.getElem?_cons_succ, List.getElem?_cons_zero]
          exact rfl
        go_simp
        refine (HOX.out _ HBW10.out).mono ?_; rintro e w11 ⟨hbd, xa, xc, ya, yc, za, zc, rfl, hmx⟩
        have HMX11 := Lib.hid hmx
        have hs11 := hbd.size
        have HKX11 := Lib.hid (HKX10.out.below hbd HKX10.out.lt)
        have HKY11 := Lib.hid (HKY10.out.below hbd HKY10.out.lt)
        have HBW11 := Lib.hid (HBW10.out.trans (hbd.mono HBW10.out.size))
        clear hbd hmx
        go_wp2_with fail
        refine hK.out _ _ (hS4.out _ HBW11.out) (fun hH46 => ?_)
        clear hK K
        try simp only [Act.put, List.setIfInBounds_toArray, List.set_cons_zero, List.set_cons_succ]
        refine Hd.one 3 3 (o := ?_) ?_ (by kernel_rfl) (fun K hK => ?_)
        rotate_left 1
        · simp only [List.getElem?_toArray, List.getElem?_cons_succ, List.getElem?_cons_zero]
          exact rfl
        go_simp
        refine (HOY.out _ HBW11.out).mono ?_; rintro e w12 ⟨hbd, ua, uc, va, vc, oa, oc, rfl, hmx⟩
        have HMY12 := Lib.hid hmx
        have hs12 := hbd.size
        have HMX12 := Lib.hid (HMX11.out.bel hbd)
        have HKX12 := Lib.hid (HKX11.out.below hbd HKX11.out.lt)
        have HKY12 := Lib.hid (HKY11.out.below hbd HKY11.out.lt)
        have HBW12 := Lib.hid (HBW11.out.trans (hbd.mono HBW11.out.size))
        clear hbd hmx
        go_wp2_with fail
        refine hK.out _ _ (hS4.out _ HBW12.out) (fun hH47 => ?_)
        clear hK K
        try simp only [Act.put, List.setIfInBounds_toArray, List.set_cons_zero, List.set_cons_succ]
        have e0 := HKX12.out.c 0 _ rfl
        have e1 := HKX12.out.c 1 _ rfl
        have e2 := HKX12.out.c 2 _ rfl
        have e3 := HKX12.out.c 3 _ rfl
        have e4 := HKX12.out.c 4 _ rfl
        have e5 := HKX12.out.c 5 _ rfl
        have ef := HKX12.out.fz
        have el := HKX12.out.lt
        refine Hd.one 6 6 (o := ?_) ?_ (by kernel_rfl) (fun K hK => ?_)
        rotate_left 1
        · simp only [List.getElem?_toArray, List.getElem?_cons_succ, List.getElem?_cons_zero]
          exact rfl
        go_simp
        generalize hwv : World.setCell _ _ _ = w13
        have htwo := two_at hwv
        have HKX13 := Lib.hid (six_at hwv HKX12.out)
        have HKY13 := Lib.hid (htwo.blk HKY12.out (by omega))
        have HMX13 := Lib.hid (HMX12.out.two htwo (fun b hb => by omega))
        have HMY13 := Lib.hid (HMY12.out.two htwo (fun b hb => by omega))
        have HBW13 := Lib.hid (htwo.bel HBW12.out (by omega))
        clear e0 e1 e2 e3 e4 e5 ef el hwv htwo
        refine hK.out _ _ (hS4.out _ HBW13.out) (fun hH48 => ?_)
        clear hK K
        try simp only [Act.put, List.setIfInBounds_toArray, List.set_cons_zero, List.set_cons_succ]
        have e0 := HKY13.out.c 0 _ rfl
        have e1 := HKY13.out.c 1 _ rfl
        have e2 := HKY13.out.c 2 _ rfl
        have e3 := HKY13.out.c 3 _ rfl
        have e4 := HKY13.out.c 4 _ rfl
        have e5 := HKY13.out.c 5 _ rfl
        have ef := HKY13.out.fz
        have el := HKY13.out.lt
        refine Hd.last 7 (o := ?_) ?_ (by kernel_rfl) (by kernel_rfl) (by kernel_rfl) (fun K hK => ?_)
        rotate_left 1
        · simp only [List.getElem?_toArray, List.getElem?_cons_succ, List.getElem?_cons_zero]
          exact rfl
        go_simp
        generalize hwv : World.setCell _ _ _ = w14
        have htwo := two_at hwv
        have HKX14 := Lib.hid (htwo.blk HKX13.out (by omega))
        have HKY14 := Lib.hid (six_at hwv HKY13.out)
        have HMX14 := Lib.hid ((HMX13.out.two htwo (fun b hb => by omega)).mono (S' := fun x => x ≠ KX ∧ x ≠ KY ∧ H0 ≤ x) (fun _ _ _ => by omega))
        have HMY14 := (HMY13.out.two htwo (fun b hb => by omega)).mt
        have HBW14 := Lib.hid (htwo.bel HBW13.out (by omega))
        clear e0 e1 e2 e3 e4 e5 ef el hwv htwo
        refine hK.out _ _ ?_
        clear hK K
        try simp only [Act.put, List.setIfInBounds_toArray, List.set_cons_zero, List.set_cons_succ]
        simp only [NoPanic]
        go_wp2_with fail
        go_meet
        exact ⟨KX, KY, xa, xc, ya, yc, za, zc, ua, uc, va, vc, oa, oc, rfl, rfl, HKX14.out, HKY14.out, HMX14.out, HMY14, by omega, by omega, HBW14.out⟩
    · skip
      go_simp
      have hmk := Blk.made (T := 30) (cs := #[.string ⟨#[]⟩, .slice none 0 0, .slice none 0 0, .int .i64 0, .slice none 0 0, .int .i64 0]) w8
      have hbd := alloc_bel w8 (.cells #[.string ⟨#[]⟩, .slice none 0 0, .slice none 0 0, .int .i64 0, .slice none 0 0, .int .i64 0] 30)
      generalize hwv : World.alloc _ _ = w9
      rw [hwv] at hmk hbd
      obtain ⟨KY, hKY⟩ : ∃ k, w8.heap.size = k := ⟨_, rfl⟩
      have hle9 : w8.heap.size ≤ KY := Nat.le_of_eq hKY
      rw [hKY] at hmk ⊢
      have hlt9 := hmk.lt
      have HKY9 := Lib.hid hmk
      have hs9 := hbd.size
      have HBW9 := Lib.hid (HBW8.out.trans (hbd.mono HBW8.out.size))
      clear hbd hmk hwv hKY
      refine hK.out _ _ (hS4.out _ HBW9.out) (fun hH49 => ?_)
      clear hK K
      try simp only [Act.put, List.setIfInBounds_toArray, List.set_cons_zero, List.set_cons_succ]
      refine Hd.two 1 4 (o := ?_) (p := ?_) ?_ ?_ (by kernel_rfl) (fun K hK => ?_) (fun K hK => ?_)
      rotate_left 2
      · simp only [List.getElem?_toArray, List.getElem?_cons_succ, List.getElem?_cons_zero]
        exact rfl
      · simp only [List.getElem?_toArray, List.getElem?_cons_succ, List.getElem?_cons_zero]
        exact rfl
      · skip
        go_simp
        refine (HOX.out _ HBW9.out).mono ?_; rintro e w10 ⟨hbd, xa, xc, ya, yc, za, zc, rfl, hmx⟩
        have HMX10 := Lib.hid hmx
        have hs10 := hbd.size
        have HKY10 := Lib.hid (HKY9.out.below hbd HKY9.out.lt)
        have HBW10 := Lib.hid (HBW9.out.trans (hbd.mono HBW9.out.size))
        clear hbd hmx
        go_wp2_with fail
        refine hK.out _ _ (hS4.out _ HBW10.out) (fun hH50 => ?_)
        clear hK K
        try simp only [Act.put, List.setIfInBounds_toArray, List.set_cons_zero, List.set_cons_succ]
        refine Hd.two 3 4 (o := ?_) (p := ?_) ?_ ?_ (by kernel_rfl) (fun K hK => ?_) (fun K hK => ?_)
        rotate_left 2
        · simp only [List.getElem?_toArray, List.getElem?_cons_succ, List.getElem?_cons_zero]
          exact rfl
        · simp only [List.getElem?_toArray, List.getElem?_cons_succ, List.getElem?_cons_zero]
          exact rfl
        · skip
          go_simp
          refine (HOY.out _ HBW10.out).mono ?_; rintro e w11 ⟨hbd, ua, uc, va, vc, oa, oc, rfl, hmx⟩
          have HMY11 := Lib.hid hmx
          have hs11 := hbd.size
          have HMX11 := Lib.hid (HMX10.out.bel hbd)
          have HKY11 := Lib.hid (HKY10.out.below hbd HKY10.out.lt)
          have HBW11 := Lib.hid (HBW10.out.trans (hbd.mono HBW10.out.size))
          clear hbd hmx
          go_wp2_with fail
          refine hK.out _ _ (hS4.out _ HBW11.out) (fun hH51 => ?_)
          clear hK K
          try simp only [Act.put, List.setIfInBounds_toArray, List.set_cons_zero, List.set_cons_succ]
          refine Hd.one 4 4 (o := ?_) ?_ (by kernel_rfl) (fun K hK => ?_)
          rotate_left 1
          · simp only [List.getElem?_toArray, List.getElem?_cons_succ, List.getElem?_cons_zero]
            exact rfl
          go_simp
          have hmk := Blk.made (T := 30) (cs := #[.string ⟨#[]⟩, .slice none 0 0, .slice none 0 0, .int .i64 0, .slice none 0 0, .int .i64 0]) w11
          have hbd := alloc_bel w11 (.cells #[.string ⟨#[]⟩, .slice none 0 0, .slice none 0 0, .int .i64 0, .slice none 0 0, .int .i64 0] 30)
          generalize hwv : World.alloc _ _ = w12
          rw [hwv] at hmk hbd
          obtain ⟨KX, hKX⟩ : ∃ k, w11.heap.size = k := ⟨_, rfl⟩
          have hle12 : w11.heap.size ≤ KX := Nat.le_of_eq hKX
          rw [hKX] at hmk ⊢
          have hlt12 := hmk.lt
          have HKX12 := Lib.hid hmk
          have hs12 := hbd.size
          have HMX12 := Lib.hid (HMX11.out.bel hbd)
          have HMY12 := Lib.hid (HMY11.out.bel hbd)
          have HKY12 := Lib.hid (HKY11.out.below hbd HKY11.out.lt)
          have HBW12 := Lib.hid (HBW11.out.trans (hbd.mono HBW11.out.size))
          clear hbd hmk hwv hKX
          refine hK.out _ _ (hS4.out _ HBW12.out) (fun hH52 => ?_)
          clear hK K
          try simp only [Act.put, List.setIfInBounds_toArray, List.set_cons_zero, List.set_cons_succ]
          have e0 := HKX12.out.c 0 _ rfl
          have e1 := HKX12.out.c 1 _ rfl
          have e2 := HKX12.out.c 2 _ rfl
          have e3 := HKX12.out.c 3 _ rfl
          have e4 := HKX12.out.c 4 _ rfl
          have e5 := HKX12.out.c 5 _ rfl
          have ef := HKX12.out.fz
          have el := HKX12.out.lt
          refine Hd.one 6 6 (o := ?_) ?_ (by kernel_rfl) (fun K hK => ?_)
          rotate_left 1
          · simp only [List.getElem?_toArray, List.getElem?_cons_succ, List.getElem?_cons_zero]
            exact rfl
          go_simp
          generalize hwv : World.setCell _ _ _ = w13
          have htwo := two_at hwv
          have HKX13 := Lib.hid (six_at hwv HKX12.out)
          have HKY13 := Lib.hid (htwo.blk HKY12.out (by omega))
          have HMX13 := Lib.hid (HMX12.out.two htwo (fun b hb => by omega))
          have HMY13 := Lib.hid (HMY12.out.two htwo (fun b hb => by omega))
          have HBW13 := Lib.hid (htwo.bel HBW12.out (by omega))
          clear e0 e1 e2 e3 e4 e5 ef el hwv htwo
          refine hK.out _ _ (hS4.out _ HBW13.out) (fun hH53 => ?_)
          clear hK K
          try simp only [Act.put, List.setIfInBounds_toArray, List.set_cons_zero, List.set_cons_succ]
          have e0 := HKY13.out.c 0 _ rfl
          have e1 := HKY13.out.c 1 _ rfl
          have e2 := HKY13.out.c 2 _ rfl
          have e3 := HKY13.out.c 3 _ rfl
          have e4 := HKY13.out.c 4 _ rfl
          have e5 := HKY13.out.c 5 _ rfl
          have ef := HKY13.out.fz
          have el := HKY13.out.lt
          refine Hd.last 7 (o := ?_) ?_ (by kernel_rfl) (by kernel_rfl) (by kernel_rfl) (fun K hK => ?_)
          rotate_left 1
          · simp only [List.getElem?_toArray, List.getElem?_cons_succ, List.getElem?_cons_zero]
            exact rfl
          go_simp
          generalize hwv : World.setCell _ _ _ = w14
          have htwo := two_at hwv
          have HKX14 := Lib.hid (htwo.blk HKX13.out (by omega))
          have HKY14 := Lib.hid (six_at hwv HKY13.out)
          have HMX14 := Lib.hid ((HMX13.out.two htwo (fun b hb => by omega)).mono (S' := fun x => x ≠ KX ∧ x ≠ KY ∧ H0 ≤ x) (fun _ _ _ => by omega))
          have HMY14 := (HMY13.out.two htwo (fun b hb => by omega)).mt
          have HBW14 := Lib.hid (htwo.bel HBW13.out (by omega))
          clear e0 e1 e2 e3 e4 e5 ef el hwv htwo
          refine hK.out _ _ ?_
          clear hK K
          try simp only [Act.put, List.setIfInBounds_toArray, List.set_cons_zero, List.set_cons_succ]
          simp only [NoPanic]
          go_wp2_with fail
          go_meet
          exact ⟨KX, KY, xa, xc, ya, yc, za, zc, ua, uc, va, vc, oa, oc, rfl, rfl, HKX14.out, HKY14.out, HMX14.out, HMY14, by omega, by omega, HBW14.out⟩
        · skip
          go_simp
          have hmk := Blk.made (T := 30) (cs := #[.string ⟨#[]⟩, .slice none 0 0, .slice none 0 0, .int .i64 0, .slice none 0 0, .int .i64 0]) w10
          have hbd := alloc_bel w10 (.cells #[.string ⟨#[]⟩, .slice none 0 0, .slice none 0 0, .int .i64 0, .slice none 0 0, .int .i64 0] 30)
          generalize hwv : World.alloc _ _ = w11
          rw [hwv] at hmk hbd
          obtain ⟨KX, hKX⟩ : ∃ k, w10.heap.size = k := ⟨_, rfl⟩
          have hle11 : w10.heap.size ≤ KX := Nat.le_of_eq hKX
          rw [hKX] at hmk ⊢
          have hlt11 := hmk.lt
          have HKX11 := Lib.hid hmk
          have hs11 := hbd.size
          have HMX11 := Lib.hid (HMX10.out.bel hbd)
          have HKY11 := Lib.hid (HKY10.out.below hbd HKY10.out.lt)
          have HBW11 := Lib.hid (HBW10.out.trans (hbd.mono HBW10.out.size))
          clear hbd hmk hwv hKX
          refine hK.out _ _ (hS4.out _ HBW11.out) (fun hH54 => ?_)
          clear hK K
          try simp only [Act.put, List.setIfInBounds_toArray, List.set_cons_zero, List.set_cons_succ]
          refine Hd.one 3 3 (o := ?_) ?_ (by kernel_rfl) (fun K hK => ?_)
          rotate_left 1
          · simp only [List.getElem?_toArray, List.getElem?_cons_succ, List.getElem?_cons_zero]
            exact rfl
          go_simp
          refine (HOY.out _ HBW11.out).mono ?_; rintro e w12 ⟨hbd, ua, uc, va, vc, oa, oc, rfl, hmx⟩
          have HMY12 := Lib.hid hmx
          have hs12 := hbd.size
          have HMX12 := Lib.hid (HMX11.out.bel hbd)
          have HKX12 := Lib.hid (HKX11.out.below hbd HKX11.out.lt)
          have HKY12 := Lib.hid (HKY11.out.below hbd HKY11.out.lt)
          have HBW12 := Lib.hid (HBW11.out.trans (hbd.mono HBW11.out.size))
          clear hbd hmx
          go_wp2_with fail
          refine hK.out _ _ (hS4.out _ HBW12.out) (fun hH55 => ?_)
          clear hK K
          try simp only [Act.put, List.setIfInBounds_toArray, List.set_cons_zero, List.set_cons_succ]
          have e0 := HKX12.out.c 0 _ rfl
          have e1 := HKX12.out.c 1 _ rfl
          have e2 := HKX12.out.c 2 _ rfl
          have e3 := HKX12.out.c 3 _ rfl
          have e4 := HKX12.out.c 4 _ rfl
          have e5 := HKX12.out.c 5 _ rfl
          have ef := HKX12.out.fz
          have el := HKX12.out.lt
          refine Hd.one 6 6 (o := ?_) ?_ (by kernel_rfl) (fun K hK => ?_)
          rotate_left 1
          · simp only [List.getElem?_toArray, List.getElem?_cons_succ, List.getElem?_cons_zero]
            exact rfl
          go_simp
          generalize hwv : World.setCell _ _ _ = w13
          have htwo := two_at hwv
          have HKX13 := Lib.hid (six_at hwv HKX12.out)
          have HKY13 := Lib.hid (htwo.blk HKY12.out (by omega))
          have HMX13 := Lib.hid (HMX12.out.two htwo (fun b hb => by omega))
          have HMY13 := Lib.hid (HMY12.out.two htwo (fun b hb => by omega))
          have HBW13 := Lib.hid (htwo.bel HBW12.out (by omega))
          clear e0 e1 e2 e3 e4 e5 ef el hwv htwo
          refine hK.out _ _ (hS4.out _ HBW13.out) (fun hH56 => ?_)
          clear hK K
          try simp only [Act.put, List.setIfInBounds_toArray, List.set_cons_zero, List.set_cons_succ]
          have e0 := HKY13.out.c 0 _ rfl
          have e1 := HKY13.out.c 1 _ rfl
          have e2 := HKY13.out.c 2 _ rfl
          have e3 := HKY13.out.c 3 _ rfl
          have e4 := HKY13.out.c 4 _ rfl
          have e5 := HKY13.out.c 5 _ rfl
          have ef := HKY13.out.fz
          have el := HKY13.out.lt
          refine Hd.last 7 (o := ?_) ?_ (by kernel_rfl) (by kernel_rfl) (by kernel_rfl) (fun K hK => ?_)
          rotate_left 1
          · simp only [List.getElem?_toArray, List.getElem?_cons_succ, List.getElem?_cons_zero]
            exact rfl
          go_simp
          generalize hwv : World.setCell _ _ _ = w14
          have htwo := two_at hwv
          have HKX14 := Lib.hid (htwo.blk HKX13.out (by omega))
          have HKY14 := Lib.hid (six_at hwv HKY13.out)
          have HMX14 := Lib.hid ((HMX13.out.two htwo (fun b hb => by omega)).mono (S' := fun x => x ≠ KX ∧ x ≠ KY ∧ H0 ≤ x) (fun _ _ _ => by omega))
          have HMY14 := (HMY13.out.two htwo (fun b hb => by omega)).mt
          have HBW14 := Lib.hid (htwo.bel HBW13.out (by omega))
          clear e0 e1 e2 e3 e4 e5 ef el hwv htwo
          refine hK.out _ _ ?_
          clear hK K
          try simp only [Act.put, List.setIfInBounds_toArray, List.set_cons_zero, List.set_cons_succ]
          simp only [NoPanic]
          go_wp2_with fail
          go_meet
          exact ⟨KX, KY, xa, xc, ya, yc, za, zc, ua, uc, va, vc, oa, oc, rfl, rfl, HKX14.out, HKY14.out, HMX14.out, HMY14, by omega, by omega, HBW14.out⟩
      · skip
        go_simp
        have hmk := Blk.made (T := 30) (cs := #[.string ⟨#[]⟩, .slice none 0 0, .slice none 0 0, .int .i64 0, .slice none 0 0, .int .i64 0]) w9
        have hbd := alloc_bel w9 (.cells #[.string ⟨#[]⟩, .slice none 0 0, .slice none 0 0, .int .i64 0, .slice none 0 0, .int .i64 0] 30)
        generalize hwv : World.alloc _ _ = w10
        rw [hwv] at hmk hbd
        obtain ⟨KX, hKX⟩ : ∃ k, w9.heap.size = k := ⟨_, rfl⟩
        have hle10 : w9.heap.size ≤ KX := Nat.le_of_eq hKX
        rw [hKX] at hmk ⊢
        have hlt10 := hmk.lt
        have HKX10 := Lib.hid hmk
        have hs10 := hbd.size
        have HKY10 := Lib.hid (HKY9.out.below hbd HKY9.out.lt)
        have HBW10 := Lib.hid (HBW9.out.trans (hbd.mono HBW9.out.size))
        clear hbd hmk hwv hKX
        refine hK.out _ _ (hS4.out _ HBW10.out) (fun hH57 => ?_)
        clear hK K
        try simp only [Act.put, List.setIfInBounds_toArray, List.set_cons_zero, List.set_cons_succ]
        refine Hd.one 1 1 (o := ?_) ?_ (by kernel_rfl) (fun K hK => ?_)
        rotate_left 1
        · simp only [List.getElem?_toArray, List.getElem?_cons_succ, List.getElem?_cons_zero]
          exact rfl
        go_simp
        refine (HOX.out _ HBW10.out).mono ?_; rintro e w11 ⟨hbd, xa, xc, ya, yc, za, zc, rfl, hmx⟩
        have HMX11 := Lib.hid hmx
        have hs11 := hbd.size
        have HKX11 := Lib.hid (HKX10.out.below hbd HKX10.out.lt)
        have HKY11 := Lib.hid (HKY10.out.below hbd HKY10.out.lt)
        have HBW11 := Lib.hid (HBW10.out.trans (hbd.mono HBW10.out.size))
        clear hbd hmx
        go_wp2_with fail
        refine hK.out _ _ (hS4.out _ HBW11.out) (fun hH58 => ?_)
        clear hK K
        try simp only [Act.put, List.setIfInBounds_toArray, List.set_cons_zero, List.set_cons_succ]
        refine Hd.one 3 3 (o := ?_) ?_ (by kernel_rfl) (fun K hK => ?_)
        rotate_left 1
        · simp only [List.getElem?_toArray, List.getElem?_cons_succ, List.getElem?_cons_zero]
          exact rfl
        go_simp
        refine (HOY.out _ HBW11.out).mono ?_; rintro e w12 ⟨hbd, ua, uc, va, vc, oa, oc, rfl, hmx⟩
        have HMY12 := Lib.hid hmx
        have hs12 := hbd.size
        have HMX12 := Lib.hid (HMX11.out.bel hbd)
        have HKX12 := Lib.hid (HKX11.out.below hbd HKX11.out.lt)
        have HKY12 := Lib.hid (HKY11.out.below hbd HKY11.out.lt)
        have HBW12 := Lib.hid (HBW11.out.trans (hbd.mono HBW11.out.size))
        clear hbd hmx
        go_wp2_with fail
        refine hK.out _ _ (hS4.out _ HBW12.out) (fun hH59 => ?_)
        clear hK K
        try simp only [Act.put, List.setIfInBounds_toArray, List.set_cons_zero, List.set_cons_succ]
        have e0 := HKX12.out.c 0 _ rfl
        have e1 := HKX12.out.c 1 _ rfl
        have e2 := HKX12.out.c 2 _ rfl
        have e3 := HKX12.out.c 3 _ rfl
        have e4 := HKX12.out.c 4 _ rfl
        have e5 := HKX12.out.c 5 _ rfl
        have ef := HKX12.out.fz
        have el := HKX12.out.lt
        refine Hd.one 6 6 (o := ?_) ?_ (by kernel_rfl) (fun K hK => ?_)
        rotate_left 1
        · simp only [List.getElem?_toArray, List.getElem?_cons_succ, List.getElem?_cons_zero]
          exact rfl
        go_simp
        generalize hwv : World.setCell _ _ _ = w13
        have htwo := two_at hwv
        have HKX13 := Lib.hid (six_at hwv HKX12.out)
        have HKY13 := Lib.hid (htwo.blk HKY12.out (by omega))
        have HMX13 := Lib.hid (HMX12.out.two htwo (fun b hb => by omega))
        have HMY13 := Lib.hid (HMY12.out.two htwo (fun b hb => by omega))
        have HBW13 := Lib.hid (htwo.bel HBW12.out (by omega))
        clear e0 e1 e2 e3 e4 e5 ef el hwv htwo
        refine hK.out _ _ (hS4.out _ HBW13.out) (fun hH60 => ?_)
        clear hK K
        try simp only [Act.put, List.setIfInBounds_toArray, List.set_cons_zero, List.set_cons_succ]
        have e0 := HKY13.out.c 0 _ rfl
        have e1 := HKY13.out.c 1 _ rfl
        have e2 := HKY13.out.c 2 _ rfl
        have e3 := HKY13.out.c 3 _ rfl
        have e4 := HKY13.out.c 4 _ rfl
        have e5 := HKY13.out.c 5 _ rfl
        have ef := HKY13.out.fz
        have el := HKY13.out.lt
        refine Hd.last 7 (o := ?_) ?_ (by kernel_rfl) (by kernel_rfl) (by kernel_rfl) (fun K hK => ?_)
        rotate_left 1
        · simp only [List.getElem?_toArray, List.getElem?_cons_succ, List.getElem?_cons_zero]
          exact rfl
        go_simp
        generalize hwv : World.setCell _ _ _ = w14
        have htwo := two_at hwv
        have HKX14 := Lib.hid (htwo.blk HKX13.out (by omega))
        have HKY14 := Lib.hid (six_at hwv HKY13.out)
        have HMX14 := Lib.hid ((HMX13.out.two htwo (fun b hb => by omega)).mono (S' := fun x => x ≠ KX ∧ x ≠ KY ∧ H0 ≤ x) (fun _ _ _ => by omega))
        have HMY14 := (HMY13.out.two htwo (fun b hb => by omega)).mt
        have HBW14 := Lib.hid (htwo.bel HBW13.out (by omega))
        clear e0 e1 e2 e3 e4 e5 ef el hwv htwo
        refine hK.out _ _ ?_
        clear hK K
        try simp only [Act.put, List.setIfInBounds_toArray, List.set_cons_zero, List.set_cons_succ]
        simp only [NoPanic]
        go_wp2_with fail
        go_meet
        exact ⟨KX, KY, xa, xc, ya, yc, za, zc, ua, uc, va, vc, oa, oc, rfl, rfl, HKX14.out, HKY14.out, HMX14.out, HMY14, by omega, by omega, HBW14.out⟩
  case rest =>
  obtain ⟨KX, KY, xa, xc, ya, yc, za, zc, ua, uc, va, vc, oa, oc, rfl, rfl, hkx, hky, hmx, hmy, hk1, hk2, hbw⟩ := hcut
  have hka := HKA.out.below hbw HKA.out.lt
  have hkb := HKB.out.below hbw HKB.out.lt
  have hma := HMA.out.bel hbw
  have hmg := HMG.out.bel hbw
  have hmb := HMB.out.bel hbw
  obtain ⟨q, hq⟩ : ∃ q, sameM A B = q := ⟨_, rfl⟩
  have HSXY : Hid (∀ v, Below wc.heap.size wc v → Calls Tryz.prog 20 #[.agg #[.string ⟨A.name.toArray⟩, .slice xa pl xc, .slice ya tl yc, .int .i64 A.prim, .slice za bl zc, .int .i64 A.at_], .agg #[.string ⟨B.name.toArray⟩, .slice ua ql uc, .slice va rl vc, .int .i64 B.prim, .slice oa sl oc, .int .i64 B.at_]] v (Back (.bool q) v)) := Lib.hid (fun v hv => by
    have := Same_any A B _ _ _ _ _ _ v (hmx.bel hv).mt (hmy.bel hv)
    rw [hq] at this
    exact this)
  have HRAB : Hid (∀ v, Below wc.heap.size wc v → Calls Tryz.prog 18 #[.agg #[.string ⟨A.name.toArray⟩, .slice pa pl pc, .slice ta tl tc, .int .i64 A.prim, .slice ba bl bc, .int .i64 A.at_], .agg #[.string ⟨B.name.toArray⟩, .slice qa ql qc, .slice ra rl rc, .int .i64 B.prim, .slice sa sl sc, .int .i64 B.at_]] v (Back (.bool q) v)) := Lib.hid (fun v hv => by
    have := RSame_any A B _ _ _ _ _ _ v (hma.bel hv) (hmb.bel hv)
    rw [hq] at this
    exact this)
  have HOA : Hid (∀ v, Below wc.heap.size wc v → Calls Tryz.prog 9 #[.agg #[.string ⟨A.name.toArray⟩, .slice pa pl pc, .slice ta tl tc, .int .i64 A.prim, .slice ba bl bc, .int .i64 A.at_]] v (fun e v' => Below v.heap.size v v' ∧ ∃ ga gc ia ic ja jc, e = .returned (.agg #[.string ⟨A.name.toArray⟩, .slice ga pl gc, .slice ia tl ic, .int .i64 A.prim, .slice ja bl jc, .int .i64 A.at_]) ∧ MtAt (fun _ => True) v' A (.slice ga pl gc) (.slice ia tl ic) (.slice ja bl jc))) := Lib.hid (fun v hv => by
    have := own_sep A HMIA.out HL15.out.1.1 HL15.out.1.2 _ _ _ v (hma.bel hv)
    rw [HPL.out.1, HPL.out.2.1, HPL.out.2.2] at this
    refine this.mono ?_
    rintro e v' ⟨h1, ga, gc, ia, ic, ja, jc, rfl, hm⟩
    exact ⟨h1, ga, gc, ia, ic, ja, jc, rfl, hm.mt⟩)
  have hS5 : Hid (∀ v, Below wc.heap.size wc v → ((v.cell? ⟨KX, 0, none⟩ = some (.string ⟨A.name.toArray⟩) ∧ v.cell? ⟨KX, 1, none⟩ = some (.slice xa pl xc) ∧ v.cell? ⟨KX, 2, none⟩ = some (.slice ya tl yc) ∧ v.cell? ⟨KX, 3, none⟩ = some (.int .i64 A.prim) ∧ v.cell? ⟨KX, 4, none⟩ = some (.slice za bl zc) ∧ v.cell? ⟨KX, 5, none⟩ = some (.int .i64 A.at_)) ∧ (v.cell? ⟨KY, 0, none⟩ = some (.string ⟨B.name.toArray⟩) ∧ v.cell? ⟨KY, 1, none⟩ = some (.slice ua ql uc) ∧ v.cell? ⟨KY, 2, none⟩ = some (.slice va rl vc) ∧ v.cell? ⟨KY, 3, none⟩ = some (.int .i64 B.prim) ∧ v.cell? ⟨KY, 4, none⟩ = some (.slice oa sl oc) ∧ v.cell? ⟨KY, 5, none⟩ = some (.int .i64 B.at_)) ∧ (v.cell? ⟨w.heap.size, 0, none⟩ = some (.string ⟨A.name.toArray⟩) ∧ v.cell? ⟨w.heap.size, 1, none⟩ = some (.slice pa pl pc) ∧ v.cell? ⟨w.heap.size, 2, none⟩ = some (.slice ta tl tc) ∧ v.cell? ⟨w.heap.size, 3, none⟩ = some (.int .i64 A.prim) ∧ v.cell? ⟨w.heap.size, 4, none⟩ = some (.slice ba bl bc) ∧ v.cell? ⟨w.heap.size, 5, none⟩ = some (.int .i64 A.at_)) ∧ (v.cell? ⟨(w.heap.size + 1), 0, none⟩ = some (.string ⟨B.name.toArray⟩) ∧ v.cell? ⟨(w.heap.size + 1), 1, none⟩ = some (.slice qa ql qc) ∧ v.cell? ⟨(w.heap.size + 1), 2, none⟩ = some (.slice ra rl rc) ∧ v.cell? ⟨(w.heap.size + 1), 3, none⟩ = some (.int .i64 B.prim) ∧ v.cell? ⟨(w.heap.size + 1), 4, none⟩ = some (.slice sa sl sc) ∧ v.cell? ⟨(w.heap.size + 1), 5, none⟩ = some (.int .i64 B.at_)))) := Lib.hid (fun v hv => by
    have h1 := hkx.below hv hkx.lt
    have h2 := hky.below hv hky.lt
    have h3 := hka.below hv hka.lt
    have h4 := hkb.below hv hkb.lt
    exact ⟨⟨h1.c 0 _ rfl, h1.c 1 _ rfl, h1.c 2 _ rfl, h1.c 3 _ rfl, h1.c 4 _ rfl, h1.c 5 _ rfl⟩, ⟨h2.c 0 _ rfl, h2.c 1 _ rfl, h2.c 2 _ rfl, h2.c 3 _ rfl, h2.c 4 _ rfl, h2.c 5 _ rfl⟩, ⟨h3.c 0 _ rfl, h3.c 1 _ rfl, h3.c 2 _ rfl, h3.c 3 _ rfl, h3.c 4 _ rfl, h3.c 5 _ rfl⟩, h4.c 0 _ rfl, h4.c 1 _ rfl, h4.c 2 _ rfl, h4.c 3 _ rfl, h4.c 4 _ rfl, h4.c 5 _ rfl⟩)
  have HKX := Lib.hid hkx
  have HKA2 := Lib.hid hka
  have HMX := Lib.hid hmx
  have HMA2 := Lib.hid hma
  have HMG2 := Lib.hid hmg
  have HB5 := Lib.hid (HBC.out.trans (hbw.mono HBC.out.size))
  clear hka hkb hma hmb hmg hkx hky hmx hmy hbw hq
  go_upto_region 5 with fail
  have HBW0 : Hid (Below wc.heap.size wc wc.drew) := Lib.hid (Below.refl _ wc).drew
  refine wp_region_noPanic ?_
  refine Hd.start (fun v => (v.cell? ⟨KX, 0, none⟩ = some (.string ⟨A.name.toArray⟩) ∧ v.cell? ⟨KX, 1, none⟩ = some (.slice xa pl xc) ∧ v.cell? ⟨KX, 2, none⟩ = some (.slice ya tl yc) ∧ v.cell? ⟨KX, 3, none⟩ = some (.int .i64 A.prim) ∧ v.cell? ⟨KX, 4, none⟩ = some (.slice za bl zc) ∧ v.cell? ⟨KX, 5, none⟩ = some (.int .i64 A.at_)) ∧ (v.cell? ⟨KY, 0, none⟩ = some (.string ⟨B.name.toArray⟩) ∧ v.cell? ⟨KY, 1, none⟩ = some (.slice ua ql uc) ∧ v.cell? ⟨KY, 2, none⟩ = some (.slice va rl vc) ∧ v.cell? ⟨KY, 3, none⟩ = some (.int .i64 B.prim) ∧ v.cell? ⟨KY, 4, none⟩ = some (.slice oa sl oc) ∧ v.cell? ⟨KY, 5, none⟩ = some (.int .i64 B.at_)) ∧ (v.cell? ⟨w.heap.size, 0, none⟩ = some (.string ⟨A.name.toArray⟩) ∧ v.cell? ⟨w.heap.size, 1, none⟩ = some (.slice pa pl pc) ∧ v.cell? ⟨w.heap.size, 2, none⟩ = some (.slice ta tl tc) ∧ v.cell? ⟨w.heap.size, 3, none⟩ = some (.int .i64 A.prim) ∧ v.cell? ⟨w.heap.size, 4, none⟩ = some (.slice ba bl bc) ∧ v.cell? ⟨w.heap.size, 5, none⟩ = some (.int .i64 A.at_)) ∧ (v.cell? ⟨(w.heap.size + 1), 0, none⟩ = some (.string ⟨B.name.toArray⟩) ∧ v.cell? ⟨(w.heap.size + 1), 1, none⟩ = some (.slice qa ql qc) ∧ v.cell? ⟨(w.heap.size + 1), 2, none⟩ = some (.slice ra rl rc) ∧ v.cell? ⟨(w.heap.size + 1), 3, none⟩ = some (.int .i64 B.prim) ∧ v.cell? ⟨(w.heap.size + 1), 4, none⟩ = some (.slice sa sl sc) ∧ v.cell? ⟨(w.heap.size + 1), 5, none⟩ = some (.int .i64 B.at_))) (by kernel_rfl) (hS5.out _ HBW0.out) (fun hH0 => ?_)
  refine Hd.take 0 2 (oi := ?_) (v := ?_) ?_ (by kernel_rfl) (fun _ _ _ h => h) hH0 ?_ ?_ ?_
  rotate_left 2
  · simp only [List.getElem?_toArray, List.getElem?_cons_zero]
    exact rfl
  · rfl
  · intro w hSw
    (try dsimp only at hSw)
    go_simp
    try with_reducible rfl
  try simp only [Act.put, List.setIfInBounds_toArray, List.set_cons_zero, List.set_cons_succ]
  refine Hd.take 1 2 (oi := ?_) (v := ?_) ?_ (by kernel_rfl) (fun _ _ _ h => h) hH0 ?_ ?_ ?_
  rotate_left 2
  · simp only [List.getElem?_toArray, List.getElem?_cons_succ, List.getElem?_cons_zero]
    exact rfl
  · rfl
  · intro w hSw
    (try dsimp only at hSw)
    go_simp
    try with_reducible rfl
  try simp only [Act.put, List.setIfInBounds_toArray, List.set_cons_zero, List.set_cons_succ]
  refine Hd.take 3 5 (oi := ?_) (v := ?_) ?_ (by kernel_rfl) (fun _ _ _ h => h) hH0 ?_ ?_ ?_
  rotate_left 2
  · simp only [List.getElem?_toArray, List.getElem?_cons_succ, List.getElem?_cons_zero]
    exact rfl
  · rfl
  · intro w hSw
    (try dsimp only at hSw)
    go_simp
    try with_reducible rfl
  try simp only [Act.put, List.setIfInBounds_toArray, List.set_cons_zero, List.set_cons_succ]
  refine Hd.take 4 5 (oi := ?_) (v := ?_) ?_ (by kernel_rfl) (fun _ _ _ h => h) hH0 ?_ ?_ ?_
  rotate_left 2
  · simp only [List.getElem?_toArray, List.getElem?_cons_succ, List.getElem?_cons_zero]
    exact rfl
  · rfl
  · intro w hSw
    (try dsimp only at hSw)
    go_simp
    try with_reducible rfl
  try simp only [Act.put, List.setIfInBounds_toArray, List.set_cons_zero, List.set_cons_succ]
  refine Hd.one 2 2 (o := ?_) ?_ (by kernel_rfl) (fun K hK => ?_)
  rotate_left 1
  · simp only [List.getElem?_toArray, List.getElem?_cons_succ, List.getElem?_cons_zero]
    exact rfl
  go_simp
  refine (HSXY.out _ HBW0.out).mono ?_; rintro e w1' ⟨rfl, hbd⟩
  have HBW1 := Lib.hid (HBW0.out.trans (hbd.mono HBW0.out.size))
  clear hbd
  go_wp2_with fail
  refine hK.out _ _ (hS5.out _ HBW1.out) (fun hJ1 => ?_)
  clear hK K
  try simp only [Act.put, List.setIfInBounds_toArray, List.set_cons_zero, List.set_cons_succ]
  refine Hd.one 5 5 (o := ?_) ?_ (by kernel_rfl) (fun K hK => ?_)
  rotate_left 1
  · simp only [List.getElem?_toArray, List.getElem?_cons_succ, List.getElem?_cons_zero]
    exact rfl
  go_simp
  refine (HRAB.out _ HBW1.out).mono ?_; rintro e w2' ⟨rfl, hbd⟩
  have HBW2 := Lib.hid (HBW1.out.trans (hbd.mono HBW1.out.size))
  clear hbd
  go_wp2_with fail
  refine hK.out _ _ (hS5.out _ HBW2.out) (fun hJ2 => ?_)
  clear hK K
  try simp only [Act.put, List.setIfInBounds_toArray, List.set_cons_zero, List.set_cons_succ]
  refine Hd.take 6 7 (oi := ?_) (v := ?_) ?_ (by kernel_rfl) (fun _ _ _ h => h) hJ2 ?_ ?_ ?_
  rotate_left 2
  · simp only [List.getElem?_toArray, List.getElem?_cons_succ, List.getElem?_cons_zero]
    exact rfl
  · rfl
  · intro w hSw
    (try dsimp only at hSw)
    go_simp
    try with_reducible rfl
  try simp only [Act.put, List.setIfInBounds_toArray, List.set_cons_zero, List.set_cons_succ]
  refine Hd.take 7 8 (oi := ?_) (v := ?_) ?_ (by kernel_rfl) (fun _ _ _ h => h) hJ2 ?_ ?_ ?_
  rotate_left 2
  · simp only [List.getElem?_toArray, List.getElem?_cons_succ, List.getElem?_cons_zero]
    exact rfl
  · rfl
  · intro w hSw
    (try dsimp only at hSw)
    go_simp
    try with_reducible rfl
  try simp only [Act.put, List.setIfInBounds_toArray, List.set_cons_zero, List.set_cons_succ]
  refine Hd.take 8 11 (oi := ?_) (v := ?_) ?_ (by kernel_rfl) (fun _ _ _ h => h) hJ2 ?_ ?_ ?_
  rotate_left 2
  · simp only [List.getElem?_toArray, List.getElem?_cons_succ, List.getElem?_cons_zero]
    exact rfl
  · rfl
  · intro w hSw
    (try dsimp only at hSw)
    go_simp
    try with_reducible rfl
  try simp only [Act.put, List.setIfInBounds_toArray, List.set_cons_zero, List.set_cons_succ]
  refine Hd.take 9 10 (oi := ?_) (v := ?_) ?_ (by kernel_rfl) (fun _ _ _ h => h) hJ2 ?_ ?_ ?_
  rotate_left 2
  · simp only [List.getElem?_toArray, List.getElem?_cons_succ, List.getElem?_cons_zero]
    exact rfl
  · rfl
  · intro w hSw
    (try dsimp only at hSw)
    go_simp
    try with_reducible rfl
  try simp only [Act.put, List.setIfInBounds_toArray, List.set_cons_zero, List.set_cons_succ]
  refine Hd.one 10 10 (o := ?_) ?_ (by kernel_rfl) (fun K hK => ?_)
  rotate_left 1
  · simp only [List.getElem?_toArray, List.getElem?_cons_succ, List.getElem?_cons_zero]
    exact rfl
  go_simp
  refine (HOA.out _ HBW2.out).mono ?_; rintro e w3' ⟨hbd, ga, gc, ia, ic, ja, jc, rfl, hmo⟩
  have HBW3 := Lib.hid (HBW2.out.trans (hbd.mono HBW2.out.size))
  have HSXO := Lib.hid (Same_any A A _ _ _ _ _ _ w3' (HMX.out.bel HBW3.out).mt hmo)
  rw [sameM_refl] at HSXO
  unfold mtV at HSXO
  clear hbd hmo
  go_wp2_with fail
  refine hK.out _ _ (hS5.out _ HBW3.out) (fun hJ3 => ?_)
  clear hK K
  try simp only [Act.put, List.setIfInBounds_toArray, List.set_cons_zero, List.set_cons_succ]
  refine Hd.one 11 11 (o := ?_) ?_ (by kernel_rfl) (fun K hK => ?_)
  rotate_left 1
  · simp only [List.getElem?_toArray, List.getElem?_cons_succ, List.getElem?_cons_zero]
    exact rfl
  go_simp
  refine HSXO.out.mono ?_; rintro e w4' ⟨rfl, hbd⟩
  have HBW4 := Lib.hid (HBW3.out.trans (hbd.mono HBW3.out.size))
  clear hbd
  go_wp2_with fail
  refine hK.out _ _ (hS5.out _ HBW4.out) (fun hJ4 => ?_)
  clear hK K
  try simp only [Act.put, List.setIfInBounds_toArray, List.set_cons_zero, List.set_cons_succ]
  refine Hd.take 12 13 (oi := ?_) (v := ?_) ?_ (by kernel_rfl) (fun _ _ _ h => h) hJ4 ?_ ?_ ?_
  rotate_left 2
  · simp only [List.getElem?_toArray, List.getElem?_cons_succ, List.getElem?_cons_zero]
    exact rfl
  · rfl
  · intro w hSw
    (try dsimp only at hSw)
    go_simp
    try with_reducible rfl
  try simp only [Act.put, List.setIfInBounds_toArray, List.set_cons_zero, List.set_cons_succ]
  refine Hd.last 13 (o := ?_) ?_ (by kernel_rfl) (by kernel_rfl) (by kernel_rfl) (fun K hK => ?_)
  rotate_left 1
  · simp only [List.getElem?_toArray, List.getElem?_cons_succ, List.getElem?_cons_zero]
    exact rfl
  go_simp
  refine hK.out _ _ ?_
  clear hK K
  try simp only [Act.put, List.setIfInBounds_toArray, List.set_cons_zero, List.set_cons_succ]
  simp only [NoPanic]
  have HC2 : Hid (cntL A.body ≤ 200) := Lib.hid (by rw [← HA.out]; exact few_le200 a.body 60)
  have e4 := (HKA2.out.below HBW4.out HKA2.out.lt).c 4 _ rfl
  have HALL := Lib.hid (rall_any A.body (by have := HC2.out; omega) (.slice ba bl bc) w4' (HMA2.out.bel HBW4.out).body)
  clear hH0 hJ1 hJ2 hJ3 hJ4
  go_wp2_with fail
  refine HALL.out.mono ?_; rintro e w5 ⟨hb5, v5, vl, rfl, hvl, hown, -, -⟩
  have hlr := own_lrd (N := fun b => b = (w5.heap.size + 1 + 1) ∨ b = (w5.heap.size + 1) ∨ b = (w5.heap.size + 1 + 1 + 1)) hown hvl (fun b hb => by omega)
  obtain ⟨lo, lc, rfl, -⟩ := own_slice hown
  obtain ⟨ln, hln⟩ : ∃ n, vl.length = n := ⟨_, rfl⟩
  have hL : (allL A.body).length = ln := by rw [← hvl, List.length_map, hln]
  have hl2 : ln ≤ 200 := by rw [← hL, allL_len]; exact HC2.out
  rw [hln] at hlr ⊢
  have hb05 := HBW4.out.trans (hb5.mono HBW4.out.size)
  have hmx5 := HMX.out.bel hb05
  have hma5 := HMG2.out.bel hb05
  have hkx5 := HKX.out.below hb05 HKX.out.lt
  have hka5 := HKA2.out.below hb05 HKA2.out.lt
  have m1 := Blk.made (T := 23) (cs := #[.slice lo ln lc]) w5
  have b1 := alloc_bel w5 (.cells #[.slice lo ln lc] 23)
  obtain ⟨x1, hx1⟩ : ∃ v, w5.alloc (.cells #[.slice lo ln lc] 23) = v := ⟨_, rfl⟩
  have z1 : x1.heap.size = w5.heap.size + 1 := by rw [← hx1]; simp
  rw [hx1] at m1 b1
  have m2 := Blk.made (T := 3) (cs := #[.int .i64 0]) x1
  have b2 := alloc_bel x1 (.cells #[.int .i64 0] 3)
  obtain ⟨x2, hx2⟩ : ∃ v, x1.alloc (.cells #[.int .i64 0] 3) = v := ⟨_, rfl⟩
  have z2 : x2.heap.size = w5.heap.size + 1 + 1 := by rw [← hx2, ← z1]; simp
  rw [hx2] at m2 b2
  rw [z1] at m2
  have m3 := Blk.made (T := 4) (cs := #[.bool true]) x2
  have b3 := alloc_bel x2 (.cells #[.bool true] 4)
  obtain ⟨x3, hx3⟩ : ∃ v, x2.alloc (.cells #[.bool true] 4) = v := ⟨_, rfl⟩
  have z3 : x3.heap.size = w5.heap.size + 1 + 1 + 1 := by rw [← hx3, ← z2]; simp
  rw [hx3] at m3 b3
  rw [z2] at m3
  have m4 := Blk.made (T := 3) (cs := #[.int .i64 (ln : Int)]) x3
  have b4 := alloc_bel x3 (.cells #[.int .i64 (ln : Int)] 3)
  obtain ⟨x4, hx4⟩ : ∃ v, x3.alloc (.cells #[.int .i64 (ln : Int)] 3) = v := ⟨_, rfl⟩
  rw [hx4] at m4 b4
  rw [z3] at m4
  have b34 := b3.trans (b4.mono b3.size)
  have b24 := b2.trans (b34.mono b2.size)
  have b14 := b1.trans (b24.mono b1.size)
  have hI4 : SInv (w5.heap.size + 1 + 1) (w5.heap.size + 1) w5.heap.size (w5.heap.size + 1 + 1 + 1) (.slice lo ln lc) (allL A.body) ln 0 x4 := ⟨m3.below b4 m3.lt, m2.below b34 m2.lt, m1.below b24 m1.lt, m4, hlr.but (But.of b14)⟩
  have HI4 := Lib.hid hI4
  have HX1 := Lib.hid hx1
  have HX2 := Lib.hid hx2
  have HX3 := Lib.hid hx3
  have HX4 := Lib.hid hx4
  have HLL := Lib.hid hL
  have HMX4 := Lib.hid ((hmx5.mono (S' := fun x => x ≠ KX ∧ x ≠ KY ∧ H0 ≤ x ∧ x < w5.heap.size) (fun x hx hl => ⟨hx.1, hx.2.1, hx.2.2, hl⟩)).bel b14)
  have HMA4 := Lib.hid ((hma5.mono (S' := fun x => x < H0 ∧ x < w5.heap.size) (fun x hx hl => ⟨hx, hl⟩)).bel b14)
  have hxlt := hkx5.lt
  have halt := hka5.lt
  have HKX4 := Lib.hid (hkx5.below b14 hkx5.lt)
  have HKA4 := Lib.hid (hka5.below b14 hka5.lt)
  have HB04 : Hid (Below w.heap.size w x4) := Lib.hid (by
    have h0 := HB5.out.trans (hb05.mono HB5.out.size)
    exact h0.trans (b14.mono h0.size))
  clear e4 hb5 hvl hown hlr hln hL hb05 hmx5 hma5 hkx5 hka5 m1 b1 hx1 z1 m2 b2 hx2 z2 m3 b3 hx3 z3 m4 b4 hx4 b34 b24 b14 hI4
  go_upto_region 10 with fail
  rw [HX1.out, HX2.out, HX3.out, HX4.out]
  have pC := HI4.out.p.c 0 _ rfl
  have pF := HI4.out.p.fz
  have pT := HI4.out.p.lt
  have lC := HI4.out.l.c 0 _ rfl
  go_cut [50] (fun s50 wx => ∃ c, s50 = .bool c ∧ (c = true → 0 ≤ n0 ∧ n0 < (ln : Int)) ∧ x4 = wx)
  case first =>
    by_cases g1 : 0 ≤ n0
    · have hd1 : decide (0 ≤ n0) = true := decide_eq_true g1
      by_cases g2 : n0 < (ln : Int)
      · have hd2 : decide (n0 < (ln : Int)) = true := decide_eq_true g2
        go_wp2_with fail
        go_meet
        exact ⟨true, by first | rfl | simp, fun _ => ⟨g1, g2⟩, rfl⟩
      · have hd2 : decide (n0 < (ln : Int)) = false := decide_eq_false g2
        go_wp2_with fail
        go_meet
        exact ⟨false, by first | rfl | simp, (fun h => by cases h), rfl⟩
    · have hd1 : decide (0 ≤ n0) = false := decide_eq_false g1
      go_wp2_with fail
      go_meet
      exact ⟨false, by first | rfl | simp, (fun h => by cases h), rfl⟩
  case rest =>
  obtain ⟨cc, rfl, hcc, rfl⟩ := hcut
  go_upto_if 50 with fail
  go_cut [12] (fun s12 wx => s12 = .pointer (some ⟨(w5.heap.size + 1 + 1 + 1), 0, none⟩) ∧ ∃ st, st ≤ ln ∧ SInv (w5.heap.size + 1 + 1) (w5.heap.size + 1) w5.heap.size (w5.heap.size + 1 + 1 + 1) (.slice lo ln lc) (allL A.body) st 0 wx ∧ But (fun b => b = (w5.heap.size + 1 + 1 + 1)) x4 wx)
  case first =>
    cases cc with
    | false =>
      go_wp2_with fail
      go_meet
      exact ⟨rfl, ln, Nat.le_refl _, HI4.out, But.refl _ _⟩
    | true =>
      obtain ⟨g1, g2⟩ := hcc rfl
      obtain ⟨k0, rfl⟩ : ∃ k : Nat, n0 = (k : Int) := ⟨n0.toNat, by omega⟩
      go_wp2_with fail
      generalize hwv : World.setCell _ _ _ = x5
      have htwo : Two (w5.heap.size + 1 + 1 + 1) (w5.heap.size + 1 + 1 + 1) x4 x5 := by rw [← hwv]; exact (Two.refl (w5.heap.size + 1 + 1 + 1) (w5.heap.size + 1 + 1 + 1) x4).km 0 (.int .i64 (k0 : Int))
      have hp5 : Blk 3 (w5.heap.size + 1 + 1 + 1) #[.int .i64 (k0 : Int)] x5 := by rw [← hwv]; exact HI4.out.p.set_ 0 (.int .i64 (k0 : Int)) _ rfl
      have hbt : But (fun b => b = (w5.heap.size + 1 + 1 + 1)) x4 x5 := ⟨htwo.os, htwo.tape, htwo.output, Nat.le_of_eq htwo.size.symm, fun b _ hb => htwo.block b hb hb⟩
      have hr5 := HI4.out.r.but (hbt.mono (fun b hb => .inr (.inr hb)))
      clear pC pF pT lC
      go_meet
      exact ⟨rfl, k0, by omega, ⟨htwo.blk HI4.out.s (by omega), htwo.blk HI4.out.n (by omega), htwo.blk HI4.out.l (by omega), hp5, hr5⟩, hbt⟩
  case rest =>
  obtain ⟨rfl, st, hst, hinv, hbt⟩ := hcut
  have hlt4 := HI4.out.p.lt
  have hmx := HMX4.out.but hbt (S' := fun x => x ≠ KX ∧ x ≠ KY ∧ H0 ≤ x ∧ x < w5.heap.size) (fun x hx _ => ⟨by omega, hx⟩)
  have hma := HMA4.out.but hbt (S' := fun x => x < H0 ∧ x < w5.heap.size) (fun x hx _ => ⟨by omega, hx⟩)
  have hkx := hbt.blk HKX4.out (by omega)
  have hka := hbt.blk HKA4.out (by omega)
  have hbw : Below w.heap.size w wc := HB04.out.trans (hbt.bel (B := w.heap.size) (fun x hx => by omega) HB04.out.size)
  have hBs : w5.heap.size + 1 + 1 + 1 + 1 ≤ wc.heap.size := by have := hinv.p.lt; omega
  have HWK := Walk2_any (m := A) (pv := .slice xa pl xc) (tv := .slice ya tl yc) (bv := .slice za bl zc) (same_see (w5.heap.size + 1 + 1) (w5.heap.size + 1) w5.heap.size (w5.heap.size + 1 + 1 + 1) (.slice lo ln lc) (allL A.body) st A.body (by rw [HLL.out]; omega) (by omega) (by omega) (by omega) (by omega) (by omega) (w5.heap.size + 1 + 1 + 1 + 1) (by omega) (by omega)) 0 wc hinv
    (saw_fits st _ _ 0 (by rw [List.drop_zero])) hBs (hmx.body.tree.mono (fun x hx _ => by omega))
  rw [saw_go st _ 0 (Nat.zero_le _), HLL.out, Nat.zero_add] at HWK
  obtain ⟨FB, NF, hgo, hfb, hmin, hnf⟩ : ∃ (FB : Bool) (NF : Nat), (if st < ln then (false, st + 1) else (true, ln)) = (FB, NF) ∧ ((st : Int) == (ln : Int)) = FB ∧ min ((st : Int) + 1) (ln : Int) = (NF : Int) ∧ NF ≤ 201 := by
    by_cases h : st < ln
    · exact ⟨false, st + 1, if_pos h, beq_eq_false_iff_ne.2 (by omega), by omega, by omega⟩
    · exact ⟨true, ln, if_neg h, beq_iff_eq.2 (by omega), by omega, by omega⟩
  rw [hgo] at HWK
  unfold mtV at HWK
  have HWK := Lib.hid HWK
  have HMX := Lib.hid hmx
  have HMA := Lib.hid hma
  have HFB := Lib.hid hfb
  have HMIN := Lib.hid hmin
  have HKX := Lib.hid hkx
  have HKA := Lib.hid hka
  have HBE := Lib.hid hbw
  have k0 := hkx.c 0 _ rfl
  have k1 := hkx.c 1 _ rfl
  have k2 := hkx.c 2 _ rfl
  have k3 := hkx.c 3 _ rfl
  have k4 := hkx.c 4 _ rfl
  have k5 := hkx.c 5 _ rfl
  clear hmx hma hkx hka hbw hinv hbt hgo hfb hmin HI4 HMX4 HMA4 HKX4 HKA4 HX1 HX2 HX3 HX4 pC pF pT lC
  go_wp2_with fail
  refine HWK.out.mono ?_; rintro e w6 ⟨rfl, hinv6, hbt6⟩
  have hkx6 := hbt6.blk HKX.out (by omega)
  have hka6 := hbt6.blk HKA.out (by omega)
  have hmx6 := HMX.out.but hbt6 (S' := fun x => x ≠ KX ∧ x ≠ KY ∧ H0 ≤ x ∧ x < w5.heap.size) (fun x hx _ => ⟨by omega, hx⟩)
  have hma6 := HMA.out.but hbt6 (S' := fun x => x < H0 ∧ x < w5.heap.size) (fun x hx _ => ⟨by omega, hx⟩)
  have hbw6 : Below w.heap.size w w6 := HBE.out.trans (hbt6.bel (B := w.heap.size) (fun x hx => by omega) HBE.out.size)
  have e4 := hkx6.c 4 _ rfl
  have HS6 := Lib.hid hinv6.s
  have HN6 := Lib.hid hinv6.n
  have HL6 := Lib.hid hinv6.l
  have HP6 := Lib.hid hinv6.p
  have HKX6 := Lib.hid hkx6
  have HKA6 := Lib.hid hka6
  have HMX6 := Lib.hid hmx6
  have HMA6 := Lib.hid hma6
  have HB6 := Lib.hid hbw6
  clear k0 k1 k2 k3 k4 k5 hkx6 hka6 hmx6 hma6 hbw6 hinv6 hbt6 HWK HKX HKA HMX HMA HBE
  go_upto_if 58 with fail
  go_cut [13] (fun s13 wx => s13 = .bool FB ∧ ∃ M2, sameM M2 A = true ∧ (M2.name = A.name ∧ M2.prim = A.prim ∧ M2.at_ = A.at_) ∧ MtAt (fun _ => True) wx M2 (.slice xa pl xc) (.slice ya tl yc) (.slice za bl zc) ∧ Blk 4 (w5.heap.size + 1 + 1) #[.bool true] wx ∧ Blk 3 (w5.heap.size + 1) #[.int .i64 (NF : Int)] wx ∧ Blk 23 w5.heap.size #[.slice lo ln lc] wx ∧ Blk 3 (w5.heap.size + 1 + 1 + 1) #[.int .i64 (st : Int)] wx ∧
    Blk 30 KX #[.string ⟨A.name.toArray⟩, .slice xa pl xc, .slice ya tl yc, .int .i64 A.prim, .slice za bl zc, .int .i64 A.at_] wx ∧ Blk 25 w.heap.size #[.string ⟨A.name.toArray⟩, .slice pa pl pc, .slice ta tl tc, .int .i64 A.prim, .slice ba bl bc, .int .i64 A.at_] wx ∧ MtAt (fun _ => True) wx A (.slice pa pl pc) (.slice ta tl tc) (.slice ba bl bc) ∧ Below w.heap.size w wx)
  case first =>
    by_cases hb0 : bl = 0
    · have hd : decide ((0 : Int) < (bl : Int)) = false := decide_eq_false (by omega)
      go_wp2_with fail
      go_meet
      exact ⟨rfl, A, sameM_refl A, ⟨rfl, rfl, rfl⟩, HMX6.out.mt, HS6.out, HN6.out, HL6.out, HP6.out, HKX6.out, HKA6.out, ⟨HMA6.out.params.mono (fun _ _ _ => trivial), HMA6.out.temps.mono (fun _ _ _ => trivial), HMA6.out.body.mono (fun _ _ _ => trivial)⟩, HB6.out⟩
    · have hd : decide ((0 : Int) < (bl : Int)) = true := decide_eq_true (by omega)
      obtain ⟨y, r, hyr⟩ : ∃ y r, A.body = y :: r := by
        have hl := HPL.out.2.2
        cases h : A.body with
        | nil => rw [h] at hl; exact absurd hl.symm hb0
        | cons y r => exact ⟨y, r, rfl⟩
      have hsep := HMX6.out.body
      rw [hyr] at hsep
      obtain ⟨g, rfl, hgS, hgl, hgf, hg5, hn0⟩ := hsep.head
      have hbl1 : (0 : Int) < (bl : Int) := by omega
      have HYR := Lib.hid hyr
      have HSEP := Lib.hid hsep
      clear hyr hsep
      go_wp2_with fail
      generalize hwv : World.setCell _ _ _ = x7
      obtain ⟨av, hav⟩ : ∃ v : Int, w6.setCell ⟨g, 5, none⟩ (.int .i64 v) = x7 := ⟨_, hwv⟩
      have hsz7 : x7.heap.size = w6.heap.size := by rw [← hav]; simp [World.setCell]
      have hblk : ∀ b, b ≠ g → x7.heap[b]? = w6.heap[b]? := fun b hb => by rw [← hav]; exact Below.heap_setCell w6 ⟨g, 5, none⟩ _ b hb
      have hbt : But (fun b => b = g) w6 x7 := by
        rw [← hav]
        exact (But.refl (fun b => b = g) w6).set_ (k := g) rfl 5 _
      have hbody : Tree (fun _ => True) x7 (.slice (some ⟨g, 0, none⟩) bl zc) (bump av y :: r) := by
        rw [← hav]
        exact (HSEP.out.bumped av).mono (fun _ _ _ => trivial)
      have hpar : Rd (fun _ => True) strV x7 (.slice xa pl xc) A.params := by
        rw [← hav]
        exact (HMX6.out.params.mono (fun _ _ _ => trivial)).int hg5
      have htmp : Rd (fun _ => True) strV x7 (.slice ya tl yc) A.temps := by
        rw [← hav]
        exact (HMX6.out.temps.mono (fun _ _ _ => trivial)).int hg5
      have hlt6 := HS6.out.lt
      have hma7 := HMA6.out.but hbt (S' := fun _ => True) (fun x hx _ => ⟨by omega, trivial⟩)
      go_meet
      exact ⟨rfl, { A with body := bump av y :: r }, bump_sameM A av y r HYR.out, ⟨rfl, rfl, rfl⟩, ⟨hpar, htmp, hbody⟩, hbt.blk HS6.out (by omega), hbt.blk HN6.out (by omega), hbt.blk HL6.out (by omega), hbt.blk HP6.out (by omega), hbt.blk HKX6.out (by omega), hbt.blk HKA6.out (by omega), hma7,
        HB6.out.trans (hbt.bel (B := w.heap.size) (fun b hb => by omega) HB6.out.size)⟩
  case rest =>
  obtain ⟨rfl, M2, hsm2, ⟨en, er, ea⟩, hm2, hs7, hn7, hl7, hp7, hkx7, hka7, hma7, hb7⟩ := hcut
  have HOA7 : Hid (∀ v, Below wc.heap.size wc v → Calls Tryz.prog 9 #[.agg #[.string ⟨A.name.toArray⟩, .slice pa pl pc, .slice ta tl tc, .int .i64 A.prim, .slice ba bl bc, .int .i64 A.at_]] v (fun e v' => Below v.heap.size v v' ∧ ∃ ga gc ia ic ja jc, e = .returned (.agg #[.string ⟨A.name.toArray⟩, .slice ga pl gc, .slice ia tl ic, .int .i64 A.prim, .slice ja bl jc, .int .i64 A.at_]) ∧ MtAt (fun _ => True) v' A (.slice ga pl gc) (.slice ia tl ic) (.slice ja bl jc))) := Lib.hid (fun v hv => by
    have := own_sep A HMIA.out HL15.out.1.1 HL15.out.1.2 _ _ _ v (hma7.bel hv)
    rw [HPL.out.1, HPL.out.2.1, HPL.out.2.2] at this
    refine this.mono ?_
    rintro e v' ⟨h1, ga, gc, ia, ic, ja, jc, rfl, hm⟩
    exact ⟨h1, ga, gc, ia, ic, ja, jc, rfl, hm.mt⟩)
  have hS15 : Hid (∀ v, Below wc.heap.size wc v → ((v.cell? ⟨KX, 0, none⟩ = some (.string ⟨A.name.toArray⟩) ∧ v.cell? ⟨KX, 1, none⟩ = some (.slice xa pl xc) ∧ v.cell? ⟨KX, 2, none⟩ = some (.slice ya tl yc) ∧ v.cell? ⟨KX, 3, none⟩ = some (.int .i64 A.prim) ∧ v.cell? ⟨KX, 4, none⟩ = some (.slice za bl zc) ∧ v.cell? ⟨KX, 5, none⟩ = some (.int .i64 A.at_)) ∧ (v.cell? ⟨w.heap.size, 0, none⟩ = some (.string ⟨A.name.toArray⟩) ∧ v.cell? ⟨w.heap.size, 1, none⟩ = some (.slice pa pl pc) ∧ v.cell? ⟨w.heap.size, 2, none⟩ = some (.slice ta tl tc) ∧ v.cell? ⟨w.heap.size, 3, none⟩ = some (.int .i64 A.prim) ∧ v.cell? ⟨w.heap.size, 4, none⟩ = some (.slice ba bl bc) ∧ v.cell? ⟨w.heap.size, 5, none⟩ = some (.int .i64 A.at_)) ∧ v.cell? ⟨(w5.heap.size + 1 + 1), 0, none⟩ = some (.bool true) ∧ v.cell? ⟨(w5.heap.size + 1), 0, none⟩ = some (.int .i64 (NF : Int)) ∧ v.cell? ⟨w5.heap.size, 0, none⟩ = some (.slice lo ln lc) ∧ v.cell? ⟨(w5.heap.size + 1 + 1 + 1), 0, none⟩ = some (.int .i64 (st : Int)))) := Lib.hid (fun v hv => by
    have h1 := hkx7.below hv hkx7.lt
    have h2 := hka7.below hv hka7.lt
    exact ⟨⟨h1.c 0 _ rfl, h1.c 1 _ rfl, h1.c 2 _ rfl, h1.c 3 _ rfl, h1.c 4 _ rfl, h1.c 5 _ rfl⟩, ⟨h2.c 0 _ rfl, h2.c 1 _ rfl, h2.c 2 _ rfl, h2.c 3 _ rfl, h2.c 4 _ rfl, h2.c 5 _ rfl⟩, (hs7.below hv hs7.lt).c 0 _ rfl, (hn7.below hv hn7.lt).c 0 _ rfl, (hl7.below hv hl7.lt).c 0 _ rfl, (hp7.below hv hp7.lt).c 0 _ rfl⟩)
  have HM2 := Lib.hid hm2
  have HE2 := Lib.hid (And.intro hsm2 (And.intro en (And.intro er ea)))
  have HB7 := Lib.hid hb7
  have hfb := HFB.out
  have hmin := HMIN.out
  have hsw : IntKind.i64.wrap ((st : Int) + 1) = (st : Int) + 1 := IntWalk.i64_in _ (by omega)
  clear hsm2 en er ea hm2 hs7 hn7 hl7 hp7 hkx7 hka7 hma7 hb7
  go_upto_region 15 with fail
  have HBV0 : Hid (Below wc.heap.size wc wc.drew) := Lib.hid (Below.refl _ wc).drew
  refine wp_region_noPanic ?_
  refine Hd.start (fun v => (v.cell? ⟨KX, 0, none⟩ = some (.string ⟨A.name.toArray⟩) ∧ v.cell? ⟨KX, 1, none⟩ = some (.slice xa pl xc) ∧ v.cell? ⟨KX, 2, none⟩ = some (.slice ya tl yc) ∧ v.cell? ⟨KX, 3, none⟩ = some (.int .i64 A.prim) ∧ v.cell? ⟨KX, 4, none⟩ = some (.slice za bl zc) ∧ v.cell? ⟨KX, 5, none⟩ = some (.int .i64 A.at_)) ∧ (v.cell? ⟨w.heap.size, 0, none⟩ = some (.string ⟨A.name.toArray⟩) ∧ v.cell? ⟨w.heap.size, 1, none⟩ = some (.slice pa pl pc) ∧ v.cell? ⟨w.heap.size, 2, none⟩ = some (.slice ta tl tc) ∧ v.cell? ⟨w.heap.size, 3, none⟩ = some (.int .i64 A.prim) ∧ v.cell? ⟨w.heap.size, 4, none⟩ = some (.slice ba bl bc) ∧ v.cell? ⟨w.heap.size, 5, none⟩ = some (.int .i64 A.at_)) ∧ v.cell? ⟨(w5.heap.size + 1 + 1), 0, none⟩ = some (.bool true) ∧ v.cell? ⟨(w5.heap.size + 1), 0, none⟩ = some (.int .i64 (NF : Int)) ∧ v.cell? ⟨w5.heap.size, 0, none⟩ = some (.slice lo ln lc) ∧ v.cell? ⟨(w5.heap.size + 1 + 1 + 1), 0, none⟩ = some (.int .i64 (st : Int))) (by kernel_rfl) (hS15.out _ HBV0.out) (fun hH0 => ?_)
  refine Hd.take 0 1 (oi := ?_) (v := ?_) ?_ (by kernel_rfl) (fun _ _ _ h => h) hH0 ?_ ?_ ?_
  rotate_left 2
  · simp only [List.getElem?_toArray, List.getElem?_cons_zero]
    exact rfl
  · rfl
  · intro w hSw
    (try dsimp only at hSw)
    go_simp
    try with_reducible rfl
  try simp only [Act.put, List.setIfInBounds_toArray, List.set_cons_zero, List.set_cons_succ]
  refine Hd.take 1 8 (oi := ?_) (v := ?_) ?_ (by kernel_rfl) (fun _ _ _ h => h) hH0 ?_ ?_ ?_
  rotate_left 2
  · simp only [List.getElem?_toArray, List.getElem?_cons_succ, List.getElem?_cons_zero]
    exact rfl
  · rfl
  · intro w hSw
    (try dsimp only at hSw)
    go_simp
    try with_reducible rfl
  try simp only [Act.put, List.setIfInBounds_toArray, List.set_cons_zero, List.set_cons_succ]
  refine Hd.take 2 7 (oi := ?_) (v := ?_) ?_ (by kernel_rfl) (fun _ _ _ h => h) hH0 ?_ ?_ ?_
  rotate_left 2
  · simp only [List.getElem?_toArray, List.getElem?_cons_succ, List.getElem?_cons_zero]
    exact rfl
  · rfl
  · intro w hSw
    (try dsimp only at hSw)
    go_simp
    try with_reducible rfl
  try simp only [Act.put, List.setIfInBounds_toArray, List.set_cons_zero, List.set_cons_succ]
  refine Hd.take 3 6 (oi := ?_) (v := ?_) ?_ (by kernel_rfl) (fun _ _ _ h => h) hH0 ?_ ?_ ?_
  rotate_left 2
  · simp only [List.getElem?_toArray, List.getElem?_cons_succ, List.getElem?_cons_zero]
    exact rfl
  · rfl
  · intro w hSw
    (try dsimp only at hSw)
    go_simp
    try with_reducible rfl
  try simp only [Act.put, List.setIfInBounds_toArray, List.set_cons_zero, List.set_cons_succ]
  refine Hd.take 4 5 (oi := ?_) (v := ?_) ?_ (by kernel_rfl) (fun _ _ _ h => h) hH0 ?_ ?_ ?_
  rotate_left 2
  · simp only [List.getElem?_toArray, List.getElem?_cons_succ, List.getElem?_cons_zero]
    exact rfl
  · rfl
  · intro w hSw
    (try dsimp only at hSw)
    go_simp
    try with_reducible rfl
  try simp only [Act.put, List.setIfInBounds_toArray, List.set_cons_zero, List.set_cons_succ]
  refine Hd.take 5 6 (oi := ?_) (v := ?_) ?_ (by kernel_rfl) (fun _ _ _ h => h) hH0 ?_ ?_ ?_
  rotate_left 2
  · simp only [List.getElem?_toArray, List.getElem?_cons_succ, List.getElem?_cons_zero]
    exact rfl
  · rfl
  · intro w hSw
    (try dsimp only at hSw)
    go_simp
    try with_reducible rfl
  try simp only [Act.put, List.setIfInBounds_toArray, List.set_cons_zero, List.set_cons_succ]
  refine Hd.take 6 7 (oi := ?_) (v := ?_) ?_ (by kernel_rfl) (fun _ _ _ h => h) hH0 ?_ ?_ ?_
  rotate_left 2
  · simp only [List.getElem?_toArray, List.getElem?_cons_succ, List.getElem?_cons_zero]
    exact rfl
  · rfl
  · intro w hSw
    (try dsimp only at hSw)
    go_simp
    try with_reducible rfl
  try simp only [Act.put, List.setIfInBounds_toArray, List.set_cons_zero, List.set_cons_succ]
  refine Hd.take 7 8 (oi := ?_) (v := ?_) ?_ (by kernel_rfl) (fun _ _ _ h => h) hH0 ?_ ?_ ?_
  rotate_left 2
  · simp only [List.getElem?_toArray, List.getElem?_cons_succ, List.getElem?_cons_zero]
    exact rfl
  · rfl
  · intro w hSw
    (try dsimp only at hSw)
    go_simp
    try with_reducible rfl
  try simp only [Act.put, List.setIfInBounds_toArray, List.set_cons_zero, List.set_cons_succ]
  refine Hd.take 8 9 (oi := ?_) (v := ?_) ?_ (by kernel_rfl) (fun _ _ _ h => h) hH0 ?_ ?_ ?_
  rotate_left 2
  · simp only [List.getElem?_toArray, List.getElem?_cons_succ, List.getElem?_cons_zero]
    exact rfl
  · rfl
  · intro w hSw
    (try dsimp only at hSw)
    go_simp
    try with_reducible rfl
  try simp only [Act.put, List.setIfInBounds_toArray, List.set_cons_zero, List.set_cons_succ]
  refine Hd.take 9 17 (oi := ?_) (v := ?_) ?_ (by kernel_rfl) (fun _ _ _ h => h) hH0 ?_ ?_ ?_
  rotate_left 2
  · simp only [List.getElem?_toArray, List.getElem?_cons_succ, List.getElem?_cons_zero]
    exact rfl
  · rfl
  · intro w hSw
    (try dsimp only at hSw)
    go_simp
    try with_reducible rfl
  try simp only [Act.put, List.setIfInBounds_toArray, List.set_cons_zero, List.set_cons_succ]
  refine Hd.take 10 16 (oi := ?_) (v := ?_) ?_ (by kernel_rfl) (fun _ _ _ h => h) hH0 ?_ ?_ ?_
  rotate_left 2
  · simp only [List.getElem?_toArray, List.getElem?_cons_succ, List.getElem?_cons_zero]
    exact rfl
  · rfl
  · intro w hSw
    (try dsimp only at hSw)
    go_simp
    try with_reducible rfl
  try simp only [Act.put, List.setIfInBounds_toArray, List.set_cons_zero, List.set_cons_succ]
  refine Hd.take 11 12 (oi := ?_) (v := ?_) ?_ (by kernel_rfl) (fun _ _ _ h => h) hH0 ?_ ?_ ?_
  rotate_left 2
  · simp only [List.getElem?_toArray, List.getElem?_cons_succ, List.getElem?_cons_zero]
    exact rfl
  · rfl
  · intro w hSw
    (try dsimp only at hSw)
    go_simp
    try with_reducible rfl
  try simp only [Act.put, List.setIfInBounds_toArray, List.set_cons_zero, List.set_cons_succ]
  refine Hd.take 12 15 (oi := ?_) (v := ?_) ?_ (by kernel_rfl) (fun _ _ _ h => h) hH0 ?_ ?_ ?_
  rotate_left 2
  · simp only [List.getElem?_toArray, List.getElem?_cons_succ, List.getElem?_cons_zero]
    exact rfl
  · rfl
  · intro w hSw
    (try dsimp only at hSw)
    go_simp
    try with_reducible rfl
  try simp only [Act.put, List.setIfInBounds_toArray, List.set_cons_zero, List.set_cons_succ]
  refine Hd.take 13 14 (oi := ?_) (v := ?_) ?_ (by kernel_rfl) (fun _ _ _ h => h) hH0 ?_ ?_ ?_
  rotate_left 2
  · simp only [List.getElem?_toArray, List.getElem?_cons_succ, List.getElem?_cons_zero]
    exact rfl
  · rfl
  · intro w hSw
    (try dsimp only at hSw)
    go_simp
    try with_reducible rfl
  try simp only [Act.put, List.setIfInBounds_toArray, List.set_cons_zero, List.set_cons_succ]
  refine Hd.take 14 15 (oi := ?_) (v := ?_) ?_ (by kernel_rfl) (fun _ _ _ h => h) hH0 ?_ ?_ ?_
  rotate_left 2
  · simp only [List.getElem?_toArray, List.getElem?_cons_succ, List.getElem?_cons_zero]
    exact rfl
  · rfl
  · intro w hSw
    (try dsimp only at hSw)
    go_simp
    try with_reducible rfl
  try simp only [Act.put, List.setIfInBounds_toArray, List.set_cons_zero, List.set_cons_succ]
  refine Hd.take 15 16 (oi := ?_) (v := ?_) ?_ (by kernel_rfl) (fun _ _ _ h => h) hH0 ?_ ?_ ?_
  rotate_left 2
  · simp only [List.getElem?_toArray, List.getElem?_cons_succ, List.getElem?_cons_zero]
    exact rfl
  · rfl
  · intro w hSw
    (try dsimp only at hSw)
    go_simp
    try with_reducible rfl
  try simp only [Act.put, List.setIfInBounds_toArray, List.set_cons_zero, List.set_cons_succ]
  refine Hd.take 16 17 (oi := ?_) (v := ?_) ?_ (by kernel_rfl) (fun _ _ _ h => h) hH0 ?_ ?_ ?_
  rotate_left 2
  · simp only [List.getElem?_toArray, List.getElem?_cons_succ, List.getElem?_cons_zero]
    exact rfl
  · rfl
  · intro w hSw
    (try dsimp only at hSw)
    go_simp
    try with_reducible rfl
  try simp only [Act.put, List.setIfInBounds_toArray, List.set_cons_zero, List.set_cons_succ]
  refine Hd.take 17 18 (oi := ?_) (v := ?_) ?_ (by kernel_rfl) (fun _ _ _ h => h) hH0 ?_ ?_ ?_
  rotate_left 2
  · simp only [List.getElem?_toArray, List.getElem?_cons_succ, List.getElem?_cons_zero]
    exact rfl
  · rfl
  · intro w hSw
    (try dsimp only at hSw)
    go_simp
    try with_reducible rfl
  try simp only [Act.put, List.setIfInBounds_toArray, List.set_cons_zero, List.set_cons_succ]
  refine Hd.take 18 23 (oi := ?_) (v := ?_) ?_ (by kernel_rfl) (fun _ _ _ h => h) hH0 ?_ ?_ ?_
  rotate_left 2
  · simp only [List.getElem?_toArray, List.getElem?_cons_succ, List.getElem?_cons_zero]
    exact rfl
  · rfl
  · intro w hSw
    (try dsimp only at hSw)
    go_simp
    try with_reducible rfl
  try simp only [Act.put, List.setIfInBounds_toArray, List.set_cons_zero, List.set_cons_succ]
  refine Hd.take 19 22 (oi := ?_) (v := ?_) ?_ (by kernel_rfl) (fun _ _ _ h => h) hH0 ?_ ?_ ?_
  rotate_left 2
  · simp only [List.getElem?_toArray, List.getElem?_cons_succ, List.getElem?_cons_zero]
    exact rfl
  · rfl
  · intro w hSw
    (try dsimp only at hSw)
    go_simp
    try with_reducible rfl
  try simp only [Act.put, List.setIfInBounds_toArray, List.set_cons_zero, List.set_cons_succ]
  refine Hd.take 20 21 (oi := ?_) (v := ?_) ?_ (by kernel_rfl) (fun _ _ _ h => h) hH0 ?_ ?_ ?_
  rotate_left 2
  · simp only [List.getElem?_toArray, List.getElem?_cons_succ, List.getElem?_cons_zero]
    exact rfl
  · rfl
  · intro w hSw
    (try dsimp only at hSw)
    go_simp
    try with_reducible rfl
  try simp only [Act.put, List.setIfInBounds_toArray, List.set_cons_zero, List.set_cons_succ]
  refine Hd.one 21 21 (o := ?_) ?_ (by kernel_rfl) (fun K hK => ?_)
  rotate_left 1
  · simp only [List.getElem?_toArray, List.getElem?_cons_succ, List.getElem?_cons_zero]
    exact rfl
  go_simp
  refine (HOA7.out _ HBV0.out).mono ?_; rintro e w1' ⟨hbd, ga, gc, ia, ic, ja, jc, rfl, hmo⟩
  have HBV1 := Lib.hid (HBV0.out.trans (hbd.mono HBV0.out.size))
  have HSXO := Same_any M2 A _ _ _ _ _ _ w1' (HM2.out.bel HBV1.out) hmo
  rw [HE2.out.1] at HSXO
  unfold mtV at HSXO
  rw [HE2.out.2.1, HE2.out.2.2.1, HE2.out.2.2.2] at HSXO
  have HSXO := Lib.hid HSXO
  clear hbd hmo
  go_wp2_with fail
  refine hK.out _ _ (hS15.out _ HBV1.out) (fun hL1 => ?_)
  clear hK K
  try simp only [Act.put, List.setIfInBounds_toArray, List.set_cons_zero, List.set_cons_succ]
  refine Hd.one 22 22 (o := ?_) ?_ (by kernel_rfl) (fun K hK => ?_)
  rotate_left 1
  · simp only [List.getElem?_toArray, List.getElem?_cons_succ, List.getElem?_cons_zero]
    exact rfl
  go_simp
  refine HSXO.out.mono ?_; rintro e w2' ⟨rfl, hbd⟩
  have HBV2 := Lib.hid (HBV1.out.trans (hbd.mono HBV1.out.size))
  clear hbd
  go_wp2_with fail
  refine hK.out _ _ (hS15.out _ HBV2.out) (fun hL2 => ?_)
  clear hK K
  try simp only [Act.put, List.setIfInBounds_toArray, List.set_cons_zero, List.set_cons_succ]
  refine Hd.take 23 24 (oi := ?_) (v := ?_) ?_ (by kernel_rfl) (fun _ _ _ h => h) hL2 ?_ ?_ ?_
  rotate_left 2
  · simp only [List.getElem?_toArray, List.getElem?_cons_succ, List.getElem?_cons_zero]
    exact rfl
  · rfl
  · intro w hSw
    (try dsimp only at hSw)
    go_simp
    try with_reducible rfl
  try simp only [Act.put, List.setIfInBounds_toArray, List.set_cons_zero, List.set_cons_succ]
  refine Hd.last 24 (o := ?_) ?_ (by kernel_rfl) (by kernel_rfl) (by kernel_rfl) (fun K hK => ?_)
  rotate_left 1
  · simp only [List.getElem?_toArray, List.getElem?_cons_succ, List.getElem?_cons_zero]
    exact rfl
  go_simp
  refine hK.out _ _ ?_
  clear hK K
  try simp only [Act.put, List.setIfInBounds_toArray, List.set_cons_zero, List.set_cons_succ]
  simp only [NoPanic]
  go_wp2_with fail
  go_ret
  exact ⟨by first | rfl | simp, HB7.out.trans (HBV2.out.mono HB7.out.size)⟩
end Tr
end Go.Proofs.YtfbhokdcnjekiaaGreatDoor
