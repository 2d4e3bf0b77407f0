/- The reference of chunk, the walk, 5: class, where it is one (wip/gen/gen_ckv5.py prints this). · The reference of chunk, the walk, 6: class. · The reference of chunk, the walk, 7: Read. · ChunkReads: the walk. -/
import Derived.Test.YthdigbkcffihkaaGreatDoorCkVM1
import Derived.Test.YthdigbkcffihkaaGreatDoorCkT
import Derived.Deep.DeepCutAuto
import Derived.Deep.CutBlock
set_option linter.unusedVariables false
namespace Go.Proofs.YthdigbkcffihkaaGreatDoor
open Go.RowKit
namespace Ck
open Lx
variable {w : World}
/-- What class hands back where it is one. -/
def RClassed (x : Cls) (ok : Bool) (w : World) (e : Ending) (w' : World) : Prop :=
  Below w.heap.size w w' ∧ ∃ fv, e = .returned (.tuple #[.agg #[strV x.name, strV x.super, fv, .int .i64 (x.at_ : Int)], .bool ok]) ∧ Strs w.heap.size fv x.fields w'
set_option maxRecDepth 100000 in
set_option maxHeartbeats 1600000 in
theorem rclass_ok {g cap : Nat} {a b c d e f : Tok} (hl : Rows_ g [a, b, c, d, e, f] w) (hg : g < w.heap.size) (hc : 6 ≤ cap) (at_ : Nat) (ha : a.kind = 1) (hi1 : is1 b 2 wSub = true) (hc5 : c.kind = 5) (hi2 : is1 d 2 wFields = true) (he4 : e.kind = 4) (hsz : ∀ t ∈ [a, b, c, d, e, f], t.word.length ≤ 4096) :
    Calls Tryz.prog 21 #[.slice (some ⟨g, 0, none⟩) 6 cap, .int .i64 (at_ : Int)] w (RClassed (classOf [a, b, c, d, e, f] at_) (classOk [a, b, c, d, e, f]) w) := by
  obtain ⟨k0, w0, n0, p0⟩ := hl 0 _ rfl
  obtain ⟨k1, w1, n1, p1⟩ := hl 1 _ rfl
  obtain ⟨k2, w2, n2, p2⟩ := hl 2 _ rfl
  obtain ⟨k3, w3, n3, p3⟩ := hl 3 _ rfl
  obtain ⟨k4, w4, n4, p4⟩ := hl 4 _ rfl
  obtain ⟨k5, w5, n5, p5⟩ := hl 5 _ rfl
  simp only [Nat.reduceMul, Nat.reduceAdd] at k0 w0 n0 p0 k1 w1 n1 p1 k2 w2 n2 p2 k3 w3 n3 p3 k4 w4 n4 p4 k5 w5 n5 p5
  have hae : ((a.kind : Int) != 1) = false := by simp; omega
  have hce : ((c.kind : Int) != 5) = false := by simp; omega
  have hee : ((e.kind : Int) != 4) = false := by simp; omega
  have hC1 := fun v => ris1 b 2 wSub v
  rw [hi1] at hC1
  have HC1 := Lib.hid hC1
  clear hC1
  have hC2 := fun v => ris1 d 2 wFields v
  rw [hi2] at hC2
  have HC2 := Lib.hid hC2
  clear hC2
  clear ha hi1 hc5 hi2 he4
  go_enter Tryz.func21, Tryz.ntmps21
  go_wp2_with fail
  have hr0 := Blk.made (T := RCT) (cs := #[.string ⟨#[]⟩, .string ⟨#[]⟩, .slice none 0 0, .int .i64 0]) w
  have hB0 : Below w.heap.size w (w.alloc (.cells #[.string ⟨#[]⟩, .string ⟨#[]⟩, .slice none 0 0, .int .i64 0] RCT)) := (Below.refl _ _).alloc (Nat.le_refl _) _
  have hne : ¬ g = w.heap.size := by omega
  refine (HC1.out _).mono ?_; rintro e v1 ⟨rfl, hb1⟩
  have hr1 := hr0.below hb1 hr0.lt
  have hB1 := hB0.trans (hb1.mono hB0.size)
  obtain ⟨q1k0, q1w0, q1n0, q1p0⟩ := (rows_below hl hB1 hg) 0 _ rfl
  obtain ⟨q1k1, q1w1, q1n1, q1p1⟩ := (rows_below hl hB1 hg) 1 _ rfl
  obtain ⟨q1k2, q1w2, q1n2, q1p2⟩ := (rows_below hl hB1 hg) 2 _ rfl
  obtain ⟨q1k3, q1w3, q1n3, q1p3⟩ := (rows_below hl hB1 hg) 3 _ rfl
  obtain ⟨q1k4, q1w4, q1n4, q1p4⟩ := (rows_below hl hB1 hg) 4 _ rfl
  obtain ⟨q1k5, q1w5, q1n5, q1p5⟩ := (rows_below hl hB1 hg) 5 _ rfl
  simp only [Nat.reduceMul, Nat.reduceAdd] at q1k0 q1w0 q1n0 q1p0 q1k1 q1w1 q1n1 q1p1 q1k2 q1w2 q1n2 q1p2 q1k3 q1w3 q1n3 q1p3 q1k4 q1w4 q1n4 q1p4 q1k5 q1w5 q1n5 q1p5
  have e10 := hr1.c 0 _ rfl
  have e11 := hr1.c 1 _ rfl
  have e12 := hr1.c 2 _ rfl
  have e13 := hr1.c 3 _ rfl
  have ef1 := hr1.fz
  have hg1 := Nat.lt_of_lt_of_le hg hB1.size
  have hrl1 := hr1.lt
  go_wp2_with fail
  refine (HC2.out _).mono ?_; rintro e v2 ⟨rfl, hb2⟩
  have hr2 := hr1.below hb2 hr1.lt
  have hB2 := hB1.trans (hb2.mono hB1.size)
  obtain ⟨q2k0, q2w0, q2n0, q2p0⟩ := (rows_below hl hB2 hg) 0 _ rfl
  obtain ⟨q2k1, q2w1, q2n1, q2p1⟩ := (rows_below hl hB2 hg) 1 _ rfl
  obtain ⟨q2k2, q2w2, q2n2, q2p2⟩ := (rows_below hl hB2 hg) 2 _ rfl
  obtain ⟨q2k3, q2w3, q2n3, q2p3⟩ := (rows_below hl hB2 hg) 3 _ rfl
  obtain ⟨q2k4, q2w4, q2n4, q2p4⟩ := (rows_below hl hB2 hg) 4 _ rfl
  obtain ⟨q2k5, q2w5, q2n5, q2p5⟩ := (rows_below hl hB2 hg) 5 _ rfl
  simp only [Nat.reduceMul, Nat.reduceAdd] at q2k0 q2w0 q2n0 q2p0 q2k1 q2w1 q2n1 q2p1 q2k2 q2w2 q2n2 q2p2 q2k3 q2w3 q2n3 q2p3 q2k4 q2w4 q2n4 q2p4 q2k5 q2w5 q2n5 q2p5
  have e20 := hr2.c 0 _ rfl
  have e21 := hr2.c 1 _ rfl
  have e22 := hr2.c 2 _ rfl
  have e23 := hr2.c 3 _ rfl
  have ef2 := hr2.fz
  have hg2 := Nat.lt_of_lt_of_le hg hB2.size
  have hrl2 := hr2.lt
  go_wp2_with fail
  have hWd := fun v : World => rwords_any ⟨e.word.toArray⟩ v (by show e.word.length ≤ _; have := hsz e (by simp); omega)
  rw [show (⟨e.word.toArray⟩ : ByteArray).data.toList = e.word from rfl] at hWd
  have HWD := Lib.hid hWd
  have HSZ := Lib.hid hsz
  clear hWd hsz
  obtain ⟨nf, hnf⟩ : ∃ nf, (wordsL e.word).length = nf := ⟨_, rfl⟩
  have HNF := Lib.hid hnf
  clear hnf
  have hsall : ∀ v, Below v2.heap.size v2 v → (v.cell? ⟨g, 9, none⟩ = some (.string ⟨c.word.toArray⟩) ∧ v.cell? ⟨g, 1, none⟩ = some (.string ⟨a.word.toArray⟩) ∧ v.cell? ⟨g, 17, none⟩ = some (.string ⟨e.word.toArray⟩)) := fun v h => by
    have hR := rows_below hl (hB2.trans (h.mono hB2.size)) hg
    have h2 := (hR 2 _ rfl).2.1
    have h0 := (hR 0 _ rfl).2.1
    have h4 := (hR 4 _ rfl).2.1
    simp only [Nat.reduceMul, Nat.reduceAdd] at h2 h0 h4
    exact ⟨h2, h0, h4⟩
  have hD0 : Below v2.heap.size v2 v2.drew := (Below.refl _ v2).drew
  have HL := Lib.hid hl
  have HR2 := Lib.hid hr2
  have HB2 := Lib.hid hB2
  go_cut [6] (fun s6 wx => ∃ (cb : Nat) (fo : Option Addr) (fc : Nat), s6 = .pointer (some ⟨cb, 0, none⟩) ∧ Below v2.heap.size v2 wx ∧ v2.heap.size ≤ cb ∧ Blk RCT cb #[.string ⟨c.word.toArray⟩, .string ⟨a.word.toArray⟩, .slice fo nf fc, .int .i64 (at_ : Int)] wx ∧ wx.ownsRow v2.heap.size ST 1 (.slice fo nf fc) nf ((wordsL e.word).map strV))
  case first =>
    refine wp_region_noPanic ?_
    refine Hd.start (fun w' => w'.cell? ⟨g, 9, none⟩ = some (.string ⟨c.word.toArray⟩) ∧ w'.cell? ⟨g, 1, none⟩ = some (.string ⟨a.word.toArray⟩) ∧ w'.cell? ⟨g, 17, none⟩ = some (.string ⟨e.word.toArray⟩)) (by kernel_rfl) (hsall _ hD0) (fun hH0 => ?_)
    obtain ⟨u0, hu0⟩ : ∃ v, v2.drew = v := ⟨_, rfl⟩
    rw [hu0] at hD0 hH0 ⊢
    clear hu0
    refine Hd.take 0 1 (oi := ?_) (v := ?_) ?_ (by kernel_rfl) (fun _ _ _ h => h) hH0 ?_ ?_ ?_
    rotate_left 2
    · simp only [List.getElem?_toArray, List.getElem?_cons_zero]
      exact rfl
    · rfl
    · intro w hSw
      (try dsimp only at hSw)
      go_simp
      try with_reducible rfl
    try simp only [Act.put, List.setIfInBounds_toArray, List.set_cons_zero, List.set_cons_succ]
    refine Hd.take 1 2 (oi := ?_) (v := ?_) ?_ (by kernel_rfl) (fun _ _ _ h => h) hH0 ?_ ?_ ?_
    rotate_left 2
    · simp only [List.getElem?_toArray, List.getElem?_cons_succ, List.getElem?_cons_zero]
      exact rfl
    · rfl
    · intro w hSw
      (try dsimp only at hSw)
      go_simp
      try with_reducible rfl
    try simp only [Act.put, List.setIfInBounds_toArray, List.set_cons_zero, List.set_cons_succ]
    refine Hd.take 2 3 (oi := ?_) (v := ?_) ?_ (by kernel_rfl) (fun _ _ _ h => h) hH0 ?_ ?_ ?_
    rotate_left 2
    · simp only [List.getElem?_toArray, List.getElem?_cons_succ, List.getElem?_cons_zero]
      exact rfl
    · rfl
    · intro w hSw
      (try dsimp only at hSw)
      go_simp
      try with_reducible rfl
    try simp only [Act.put, List.setIfInBounds_toArray, List.set_cons_zero, List.set_cons_succ]
    refine Hd.take 3 14 (oi := ?_) (v := ?_) ?_ (by kernel_rfl) (fun _ _ _ h => h) hH0 ?_ ?_ ?_
    rotate_left 2
    · simp only [List.getElem?_toArray, List.getElem?_cons_succ, List.getElem?_cons_zero]
      exact rfl
    · rfl
    · intro w hSw
      (try dsimp only at hSw)
      go_simp
      try with_reducible rfl
    try simp only [Act.put, List.setIfInBounds_toArray, List.set_cons_zero, List.set_cons_succ]
    refine Hd.take 4 5 (oi := ?_) (v := ?_) ?_ (by kernel_rfl) (fun _ _ _ h => h) hH0 ?_ ?_ ?_
    rotate_left 2
    · simp only [List.getElem?_toArray, List.getElem?_cons_succ, List.getElem?_cons_zero]
      exact rfl
    · rfl
    · intro w hSw
      (try dsimp only at hSw)
      go_simp
      try with_reducible rfl
    try simp only [Act.put, List.setIfInBounds_toArray, List.set_cons_zero, List.set_cons_succ]
    refine Hd.take 5 6 (oi := ?_) (v := ?_) ?_ (by kernel_rfl) (fun _ _ _ h => h) hH0 ?_ ?_ ?_
    rotate_left 2
    · simp only [List.getElem?_toArray, List.getElem?_cons_succ, List.getElem?_cons_zero]
      exact rfl
    · rfl
    · intro w hSw
      (try dsimp only at hSw)
      go_simp
      try with_reducible rfl
    try simp only [Act.put, List.setIfInBounds_toArray, List.set_cons_zero, List.set_cons_succ]
    refine Hd.take 6 7 (oi := ?_) (v := ?_) ?_ (by kernel_rfl) (fun _ _ _ h => h) hH0 ?_ ?_ ?_
    rotate_left 2
    · simp only [List.getElem?_toArray, List.getElem?_cons_succ, List.getElem?_cons_zero]
      exact rfl
    · rfl
    · intro w hSw
      (try dsimp only at hSw)
      go_simp
      try with_reducible rfl
    try simp only [Act.put, List.setIfInBounds_toArray, List.set_cons_zero, List.set_cons_succ]
    refine Hd.take 7 14 (oi := ?_) (v := ?_) ?_ (by kernel_rfl) (fun _ _ _ h => h) hH0 ?_ ?_ ?_
    rotate_left 2
    · simp only [List.getElem?_toArray, List.getElem?_cons_succ, List.getElem?_cons_zero]
      exact rfl
    · rfl
    · intro w hSw
      (try dsimp only at hSw)
      go_simp
      try with_reducible rfl
    try simp only [Act.put, List.setIfInBounds_toArray, List.set_cons_zero, List.set_cons_succ]
    refine Hd.take 8 9 (oi := ?_) (v := ?_) ?_ (by kernel_rfl) (fun _ _ _ h => h) hH0 ?_ ?_ ?_
    rotate_left 2
    · simp only [List.getElem?_toArray, List.getElem?_cons_succ, List.getElem?_cons_zero]
      exact rfl
    · rfl
    · intro w hSw
      (try dsimp only at hSw)
      go_simp
      try with_reducible rfl
    try simp only [Act.put, List.setIfInBounds_toArray, List.set_cons_zero, List.set_cons_succ]
    refine Hd.take 9 10 (oi := ?_) (v := ?_) ?_ (by kernel_rfl) (fun _ _ _ h => h) hH0 ?_ ?_ ?_
    rotate_left 2
    · simp only [List.getElem?_toArray, List.getElem?_cons_succ, List.getElem?_cons_zero]
      exact rfl
    · rfl
    · intro w hSw
      (try dsimp only at hSw)
      go_simp
      try with_reducible rfl
    try simp only [Act.put, List.setIfInBounds_toArray, List.set_cons_zero, List.set_cons_succ]
    refine Hd.take 10 11 (oi := ?_) (v := ?_) ?_ (by kernel_rfl) (fun _ _ _ h => h) hH0 ?_ ?_ ?_
    rotate_left 2
    · simp only [List.getElem?_toArray, List.getElem?_cons_succ, List.getElem?_cons_zero]
      exact rfl
    · rfl
    · intro w hSw
      (try dsimp only at hSw)
      go_simp
      try with_reducible rfl
    try simp only [Act.put, List.setIfInBounds_toArray, List.set_cons_zero, List.set_cons_succ]
    refine Hd.take 11 12 (oi := ?_) (v := ?_) ?_ (by kernel_rfl) (fun _ _ _ h => h) hH0 ?_ ?_ ?_
    rotate_left 2
    · simp only [List.getElem?_toArray, List.getElem?_cons_succ, List.getElem?_cons_zero]
      exact rfl
    · rfl
    · intro w hSw
      (try dsimp only at hSw)
      go_simp
      try with_reducible rfl
    try simp only [Act.put, List.setIfInBounds_toArray, List.set_cons_zero, List.set_cons_succ]
    refine Hd.take 13 14 (oi := ?_) (v := ?_) ?_ (by kernel_rfl) (fun _ _ _ h => h) hH0 ?_ ?_ ?_
    rotate_left 2
    · simp only [List.getElem?_toArray, List.getElem?_cons_succ, List.getElem?_cons_zero]
      exact rfl
    · rfl
    · intro w hSw
      (try dsimp only at hSw)
      go_simp
      try with_reducible rfl
    try simp only [Act.put, List.setIfInBounds_toArray, List.set_cons_zero, List.set_cons_succ]
    refine Hd.two 12 15 (o := ?_) (p := ?_) ?_ ?_ (by kernel_rfl) (fun K hK => ?_) (fun K hK => ?_)
    rotate_left 2
    · simp only [List.getElem?_toArray, List.getElem?_cons_succ, List.getElem?_cons_zero]
      exact rfl
    · simp only [List.getElem?_toArray, List.getElem?_cons_succ, List.getElem?_cons_zero]
      exact rfl
    · go_simp
      refine Calls.mono (HWD.out _) ?_; rintro e' u1 ⟨hbq, fv, rfl, hown⟩
      obtain ⟨fo, fc, rfl, -⟩ := own_slice hown
      have hD1 := hD0.trans (hbq.mono hD0.size)
      rw [HNF.out] at hown ⊢
      go_wp2_with fail
      refine hK.out _ _ (hsall _ hD1) (fun hH1 => ?_)
      clear hK K
      try simp only [Act.put, List.setIfInBounds_toArray, List.set_cons_zero, List.set_cons_succ]
      have hown := own_mono hown hD0.size
      clear hbq
      refine Hd.take 14 16 (oi := ?_) (v := ?_) ?_ (by kernel_rfl) (fun _ _ _ h => h) hH1 ?_ ?_ ?_
      rotate_left 2
      · simp only [List.getElem?_toArray, List.getElem?_cons_succ, List.getElem?_cons_zero]
        exact rfl
      · rfl
      · intro w hSw
        (try dsimp only at hSw)
        go_simp
        try with_reducible rfl
      try simp only [Act.put, List.setIfInBounds_toArray, List.set_cons_zero, List.set_cons_succ]
      refine Hd.one 15 15 (o := ?_) ?_ (by kernel_rfl) (fun K hK => ?_)
      rotate_left 1
      · simp only [List.getElem?_toArray, List.getElem?_cons_succ, List.getElem?_cons_zero]
        exact rfl
      go_simp
      have hbe : Below u1.heap.size u1 (u1.alloc (.cells #[.string ⟨#[]⟩, .string ⟨#[]⟩, .slice none 0 0, .int .i64 0] RCT)) := (Below.refl _ _).alloc (Nat.le_refl _) _
      have hD2 := hD1.trans (hbe.mono hD1.size)
      refine hK.out _ _ (hsall _ hD2) (fun hH2 => ?_)
      clear hK K
      try simp only [Act.put, List.setIfInBounds_toArray, List.set_cons_zero, List.set_cons_succ]
      have hcb := Blk.made (T := RCT) (cs := #[.string ⟨#[]⟩, .string ⟨#[]⟩, .slice none 0 0, .int .i64 0]) u1
      replace hown := own_below hown hbe
      obtain ⟨cb, hcbe⟩ : ∃ v, u1.heap.size = v := ⟨_, rfl⟩
      have hcl : v2.heap.size ≤ cb := by rw [← hcbe]; exact hD1.size
      rw [hcbe] at hcb ⊢
      clear hbe
      obtain ⟨u2, hu⟩ : ∃ v, u1.alloc (.cells #[.string ⟨#[]⟩, .string ⟨#[]⟩, .slice none 0 0, .int .i64 0] RCT) = v := ⟨_, rfl⟩
      rw [hu] at hcb hD2 hH2 hown ⊢
      clear hu hcbe
      have b0 := hcb.c 0 _ rfl
      have b1 := hcb.c 1 _ rfl
      have b2 := hcb.c 2 _ rfl
      have b3 := hcb.c 3 _ rfl
      have bf := hcb.fz
      refine Hd.last 16 (o := ?_) ?_ (by kernel_rfl) (by kernel_rfl) (by kernel_rfl) (fun K hK => ?_)
      rotate_left 1
      · simp only [List.getElem?_toArray, List.getElem?_cons_succ, List.getElem?_cons_zero]
        exact rfl
      go_simp
      refine hK.out _ _ ?_
      clear hK K
      try simp only [Act.put, List.setIfInBounds_toArray, List.set_cons_zero, List.set_cons_succ]
      simp only [NoPanic]
      have hc0 := hcb.set_ 0 (.string ⟨c.word.toArray⟩) _ rfl
      have hc1 := hc0.set_ 1 (.string ⟨a.word.toArray⟩) _ rfl
      have hc2 := hc1.set_ 2 (.slice fo nf fc) _ rfl
      have hc3 := hc2.set_ 3 (.int .i64 (at_ : Int)) _ rfl
      have hbF := ((((hD2.setCell (p := ⟨cb, 0, none⟩) hcl (.string ⟨c.word.toArray⟩)).setCell (p := ⟨cb, 1, none⟩) hcl (.string ⟨a.word.toArray⟩)).setCell (p := ⟨cb, 2, none⟩) hcl (.slice fo nf fc)).setCell (p := ⟨cb, 3, none⟩) hcl (.int .i64 (at_ : Int)))
      have hoF := (own_set (own_set (own_set (own_set hown hcb (by decide) 0 (.string ⟨c.word.toArray⟩)) hc0 (by decide) 1 (.string ⟨a.word.toArray⟩)) hc1 (by decide) 2 (.slice fo nf fc)) hc2 (by decide) 3 (.int .i64 (at_ : Int)))
      go_wp2_with fail
      go_meet
      exact ⟨cb, fo, fc, rfl, hbF, hcl, hc3, hoF⟩
    · go_simp
      have hbe : Below u0.heap.size u0 (u0.alloc (.cells #[.string ⟨#[]⟩, .string ⟨#[]⟩, .slice none 0 0, .int .i64 0] RCT)) := (Below.refl _ _).alloc (Nat.le_refl _) _
      have hD1 := hD0.trans (hbe.mono hD0.size)
      refine hK.out _ _ (hsall _ hD1) (fun hH1 => ?_)
      clear hK K
      try simp only [Act.put, List.setIfInBounds_toArray, List.set_cons_zero, List.set_cons_succ]
      have hcb := Blk.made (T := RCT) (cs := #[.string ⟨#[]⟩, .string ⟨#[]⟩, .slice none 0 0, .int .i64 0]) u0
      obtain ⟨cb, hcbe⟩ : ∃ v, u0.heap.size = v := ⟨_, rfl⟩
      have hcl : v2.heap.size ≤ cb := by rw [← hcbe]; exact hD0.size
      rw [hcbe] at hcb ⊢
      clear hbe
      obtain ⟨u1, hu⟩ : ∃ v, u0.alloc (.cells #[.string ⟨#[]⟩, .string ⟨#[]⟩, .slice none 0 0, .int .i64 0] RCT) = v := ⟨_, rfl⟩
      rw [hu] at hcb hD1 hH1 ⊢
      clear hu hcbe
      refine Hd.one 12 12 (o := ?_) ?_ (by kernel_rfl) (fun K hK => ?_)
      rotate_left 1
      · simp only [List.getElem?_toArray, List.getElem?_cons_succ, List.getElem?_cons_zero]
        exact rfl
      go_simp
      refine Calls.mono (HWD.out _) ?_; rintro e' u2 ⟨hbq, fv, rfl, hown⟩
      obtain ⟨fo, fc, rfl, -⟩ := own_slice hown
      have hD2 := hD1.trans (hbq.mono hD1.size)
      rw [HNF.out] at hown ⊢
      go_wp2_with fail
      refine hK.out _ _ (hsall _ hD2) (fun hH2 => ?_)
      clear hK K
      try simp only [Act.put, List.setIfInBounds_toArray, List.set_cons_zero, List.set_cons_succ]
      have hown := own_mono hown hD1.size
      replace hcb := hcb.below hbq hcb.lt
      clear hbq
      refine Hd.take 14 16 (oi := ?_) (v := ?_) ?_ (by kernel_rfl) (fun _ _ _ h => h) hH2 ?_ ?_ ?_
      rotate_left 2
      · simp only [List.getElem?_toArray, List.getElem?_cons_succ, List.getElem?_cons_zero]
        exact rfl
      · rfl
      · intro w hSw
        (try dsimp only at hSw)
        go_simp
        try with_reducible rfl
      try simp only [Act.put, List.setIfInBounds_toArray, List.set_cons_zero, List.set_cons_succ]
      have b0 := hcb.c 0 _ rfl
      have b1 := hcb.c 1 _ rfl
      have b2 := hcb.c 2 _ rfl
      have b3 := hcb.c 3 _ rfl
      have bf := hcb.fz
      refine Hd.last 16 (o := ?_) ?_ (by kernel_rfl) (by kernel_rfl) (by kernel_rfl) (fun K hK => ?_)
      rotate_left 1
      · simp only [List.getElem?_toArray, List.getElem?_cons_succ, List.getElem?_cons_zero]
        exact rfl
      go_simp
      refine hK.out _ _ ?_
      clear hK K
      try simp only [Act.put, List.setIfInBounds_toArray, List.set_cons_zero, List.set_cons_succ]
      simp only [NoPanic]
      have hc0 := hcb.set_ 0 (.string ⟨c.word.toArray⟩) _ rfl
      have hc1 := hc0.set_ 1 (.string ⟨a.word.toArray⟩) _ rfl
      have hc2 := hc1.set_ 2 (.slice fo nf fc) _ rfl
      have hc3 := hc2.set_ 3 (.int .i64 (at_ : Int)) _ rfl
      have hbF := ((((hD2.setCell (p := ⟨cb, 0, none⟩) hcl (.string ⟨c.word.toArray⟩)).setCell (p := ⟨cb, 1, none⟩) hcl (.string ⟨a.word.toArray⟩)).setCell (p := ⟨cb, 2, none⟩) hcl (.slice fo nf fc)).setCell (p := ⟨cb, 3, none⟩) hcl (.int .i64 (at_ : Int)))
      have hoF := (own_set (own_set (own_set (own_set hown hcb (by decide) 0 (.string ⟨c.word.toArray⟩)) hc0 (by decide) 1 (.string ⟨a.word.toArray⟩)) hc1 (by decide) 2 (.slice fo nf fc)) hc2 (by decide) 3 (.int .i64 (at_ : Int)))
      go_wp2_with fail
      go_meet
      exact ⟨cb, fo, fc, rfl, hbF, hcl, hc3, hoF⟩
  case rest =>
  obtain ⟨cb, fo, fc, rfl, hbc, hcl, hcb, hown⟩ := hcut
  have hN2 := fun v : World => rnamed_any ⟨c.word.toArray⟩ v (by show c.word.length ≤ _; have := HSZ.out c (by simp); omega)
  rw [show (⟨c.word.toArray⟩ : ByteArray).data.toList = c.word from rfl] at hN2
  obtain ⟨q0, hq0⟩ : ∃ q, named c.word = q := ⟨_, rfl⟩
  rw [hq0] at hN2
  have HN2 := Lib.hid hN2
  have HQ0 := Lib.hid hq0
  clear hN2 hq0
  have hrc := HR2.out.below hbc HR2.out.lt
  obtain ⟨na, hna⟩ : ∃ b : ByteArray, (⟨a.word.toArray⟩ : ByteArray) = b := ⟨_, rfl⟩
  rw [hna] at hcb
  have dna : na.data.toList = a.word := by rw [← hna]
  have HNA := Lib.hid hna
  clear hna
  by_cases hnil : a.word = wNil
  · have hb : (na.toList == [110, 105, 108]) = true := by rw [ByteArray.toList_eq, dna, hnil]; rfl
    have HNIL := Lib.hid hnil
    clear hnil dna
    have c0 := hcb.c 0 _ rfl
    have c1 := hcb.c 1 _ rfl
    have cf := hcb.fz
    have hSUP : Hid (strV (if a.word = wNil then [] else a.word) = .string ⟨#[]⟩) := Lib.hid (by rw [if_pos HNIL.out]; rfl)
    go_wp2_with fail
    have hbW := hbc.setCell (p := ⟨cb, 1, none⟩) hcl (.string ⟨#[]⟩)
    have hoW := own_set hown hcb (by decide) 1 (.string ⟨#[]⟩)
    have hrW := hrc.far (p := ⟨cb, 1, none⟩) (by show w.heap.size ≠ cb; have := hr2.lt; omega) (.string ⟨#[]⟩)
    have hcW := hcb.set_ 1 (.string ⟨#[]⟩) _ rfl
    obtain ⟨W, hW⟩ : ∃ W, wc.setCell ⟨cb, 1, none⟩ (.string ⟨#[]⟩) = W := ⟨_, rfl⟩
    rw [hW] at hbW hoW hrW hcW ⊢
    clear hW hcb hrc hown c0 c1 cf
    refine (HN2.out _).mono ?_; rintro e' w' ⟨rfl, rfl⟩
    have HCW := Lib.hid hcW
    have HOW := Lib.hid hoW
    have HRW := Lib.hid hrW
    have d2 := hcW.c 2 _ rfl
    obtain ⟨fo', fc', hfe, hfo⟩ := own_slice hoW
    injection hfe with hx1 hx2 hx3
    rw [← hx1] at hfo
    clear hoW hrW hcW hx1 hx2 hx3
    go_wp2_with fail
    clear d2
    go_loopw [7, 8] (fun y z wr => ∃ (k : Nat) (q : Bool), y = .bool q ∧ z = .int .i64 (k : Int) ∧ k ≤ nf ∧ Hid (q = (q0 && ((wordsL e.word).take k).all named)) ∧ Below W.heap.size W wr) (fun _ z _ => nf - (intOf z).toNat)
    case atStart => exact ⟨0, _, rfl, rfl, Nat.zero_le _, Lib.hid (by simp), Below.refl _ _⟩
    case round =>
      obtain ⟨k, q, rfl, rfl, hk, hq, hbr⟩ := hrel
      have hcr := HCW.out.below hbr HCW.out.lt
      have d0 := hcr.c 0 _ rfl
      have d1 := hcr.c 1 _ rfl
      have d2 := hcr.c 2 _ rfl
      have d3 := hcr.c 3 _ rfl
      by_cases hkn : k < nf
      · have hdec : decide ((k : Int) < (nf : Int)) = true := by simpa using hkn
        obtain ⟨gf, rfl, hgf1, hgf2, hgf3, hgf4⟩ := hfo (by omega)
        have hkw : IntKind.i64.wrap ((k : Int) + 1) = (k : Int) + 1 := IntWalk.i64_in _ (by unfold maxLen at hgf4; omega)
        obtain ⟨x, hx⟩ : ∃ x, (wordsL e.word)[k]? = some x := ⟨_, List.getElem?_eq_getElem (by rw [HNF.out]; exact hkn)⟩
        have r0 := (hbr.cell (p := ⟨gf, k, none⟩) (by show gf < _; omega)).trans (strs_at (n := nf) (by have := HOW.out; rw [← HNF.out] at this ⊢; exact this) k x hx)
        have hxs := Nat.le_trans (wordsL_le _ x (List.mem_of_getElem? hx)) (HSZ.out e (by simp))
        have hF := fun v : World => rnamed_any ⟨x.toArray⟩ v (by show x.length ≤ _; omega)
        rw [show (⟨x.toArray⟩ : ByteArray).data.toList = x from rfl] at hF
        have hq2 : (q && named x) = (q0 && ((wordsL e.word).take (k + 1)).all named) := by
          obtain ⟨h1, h2⟩ := List.getElem?_eq_some_iff.1 hx
          rw [hq.out, List.take_succ_eq_append_getElem h1, h2, List.all_append, Bool.and_assoc]
          simp
        obtain ⟨bx, hbx⟩ : ∃ bx : ByteArray, (⟨x.toArray⟩ : ByteArray) = bx := ⟨_, rfl⟩
        rw [hbx] at r0 hF
        have HF := Lib.hid hF
        have HQ2 := Lib.hid hq2
        clear hF hq2 hbx hx hq hgf1
        cases q with
        | true =>
          go_wp2_with fail
          refine (HF.out _).mono ?_; rintro e' w' ⟨rfl, rfl⟩
          go_wp2_with fail
          exact ⟨⟨k + 1, _, rfl, vint (by omega), by omega, Lib.hid (by rw [← HQ2.out]; simp), hbr⟩, by simp only [intOf]; omega⟩
        | false =>
          go_wp2_with fail
          exact ⟨⟨k + 1, _, rfl, vint (by omega), by omega, Lib.hid (by rw [← HQ2.out]; simp), hbr⟩, by simp only [intOf]; omega⟩
      · have hdec : decide ((k : Int) < (nf : Int)) = false := by simpa using hkn
        have hq2 : q = (q0 && (wordsL e.word).all named) := by rw [hq.out, List.take_of_length_le (by rw [HNF.out]; omega)]
        have HQ2 := Lib.hid hq2
        clear hq hq2
        have hrr := HRW.out.below hbr HRW.out.lt
        have z0 := hrr.c 0 _ rfl
        have z1 := hrr.c 1 _ rfl
        have z2 := hrr.c 2 _ rfl
        have z3 := hrr.c 3 _ rfl
        have zf := hrr.fz
        have hrl := hrr.lt
        go_wp2_with fail
        have hco : classOf [a, b, c, d, e, f] at_ = ⟨c.word, if a.word = wNil then [] else a.word, wordsL e.word, at_⟩ := rfl
        have hok : classOk [a, b, c, d, e, f] = q := by rw [HQ2.out, ← HQ0.out]; rfl
        have hbV0 := (HB2.out.trans (hbW.mono HB2.out.size)).trans (hbr.mono (Nat.le_trans HB2.out.size hbW.size))
        have hoV0 := own_below HOW.out hbr
        have hh0 := hrr.set_ 0 (.string ⟨c.word.toArray⟩) _ rfl
        have ho0 := own_set hoV0 hrr (by decide) 0 (.string ⟨c.word.toArray⟩)
        have hbv0 := hbV0.setCell (p := ⟨w.heap.size, 0, none⟩) (Nat.le_refl _) (.string ⟨c.word.toArray⟩)
        have hh1 := hh0.set_ 1 ((.string ⟨#[]⟩)) _ rfl
        have ho1 := own_set ho0 hh0 (by decide) 1 ((.string ⟨#[]⟩))
        have hbv1 := hbv0.setCell (p := ⟨w.heap.size, 1, none⟩) (Nat.le_refl _) ((.string ⟨#[]⟩))
        have hh2 := hh1.set_ 2 (.slice fo nf fc) _ rfl
        have ho2 := own_set ho1 hh1 (by decide) 2 (.slice fo nf fc)
        have hbv2 := hbv1.setCell (p := ⟨w.heap.size, 2, none⟩) (Nat.le_refl _) (.slice fo nf fc)
        have hh3 := hh2.set_ 3 (.int .i64 (at_ : Int)) _ rfl
        have ho3 := own_set ho2 hh2 (by decide) 3 (.int .i64 (at_ : Int))
        have hbv3 := hbv2.setCell (p := ⟨w.heap.size, 3, none⟩) (Nat.le_refl _) (.int .i64 (at_ : Int))
        obtain ⟨V, hV⟩ : ∃ V, ((((wr.setCell ⟨w.heap.size, 0, none⟩ (.string ⟨c.word.toArray⟩)).setCell ⟨w.heap.size, 1, none⟩ ((.string ⟨#[]⟩))).setCell ⟨w.heap.size, 2, none⟩ (.slice fo nf fc)).setCell ⟨w.heap.size, 3, none⟩ (.int .i64 (at_ : Int))) = V := ⟨_, rfl⟩
        rw [hV] at hh3 ho3 hbv3 ⊢
        clear hV hh0 hh1 hh2 ho0 ho1 ho2 hbv0 hbv1 hbv2 hoV0 hbV0 z0 z1 z2 z3 zf d0 d1 d2 d3
        have HBV := Lib.hid hbv3
        have HOV := Lib.hid (own_mono ho3 HB2.out.size)
        clear hbv3 ho3
        have z0 := hh3.c 0 _ rfl
        have z1 := hh3.c 1 _ rfl
        have z2 := hh3.c 2 _ rfl
        have z3 := hh3.c 3 _ rfl
        have HCO := Lib.hid hco
        have HOK := Lib.hid hok
        clear hco hok
        refine bodyPost_ret (v := .tuple #[.agg #[.string ⟨c.word.toArray⟩, (.string ⟨#[]⟩), .slice fo nf fc, .int .i64 (at_ : Int)], .bool q]) (by simp [results, Tryz.results21, go_sem, z0, z1, z2, z3]) rfl ?_
        rw [HCO.out, HOK.out]
        refine ⟨HBV.out, .slice fo nf fc, ?_, ?_⟩
        · show _ = Ending.returned (.tuple #[.agg #[strV c.word, strV (if a.word = wNil then [] else a.word), .slice fo nf fc, .int .i64 (at_ : Int)], .bool q])
          rw [hSUP.out]; rfl
        · show Strs w.heap.size (.slice fo nf fc) (wordsL e.word) V
          unfold Strs
          rw [HNF.out]; exact HOV.out
  · have hb : (na.toList == [110, 105, 108]) = false := by rw [beq_eq_false_iff_ne, ByteArray.toList_eq, dna]; exact hnil
    have hSUP : Hid (strV (if a.word = wNil then [] else a.word) = .string na) := Lib.hid (by rw [if_neg hnil, ← HNA.out]; rfl)
    clear hnil dna
    have c0 := hcb.c 0 _ rfl
    have c1 := hcb.c 1 _ rfl
    go_wp2_with fail
    obtain ⟨W, hW⟩ : ∃ W, wc = W := ⟨_, rfl⟩
    have hbW := hbc
    have hoW := hown
    have hrW := hrc
    have hcW := hcb
    rw [hW] at hbW hoW hrW hcW ⊢
    clear hW c0 c1 hbc hown hrc hcb
    refine (HN2.out _).mono ?_; rintro e' w' ⟨rfl, rfl⟩
    have HCW := Lib.hid hcW
    have HOW := Lib.hid hoW
    have HRW := Lib.hid hrW
    have d2 := hcW.c 2 _ rfl
    obtain ⟨fo', fc', hfe, hfo⟩ := own_slice hoW
    injection hfe with hx1 hx2 hx3
    rw [← hx1] at hfo
    clear hoW hrW hcW hx1 hx2 hx3
    go_wp2_with fail
    clear d2
    go_loopw [7, 8] (fun y z wr => ∃ (k : Nat) (q : Bool), y = .bool q ∧ z = .int .i64 (k : Int) ∧ k ≤ nf ∧ Hid (q = (q0 && ((wordsL e.word).take k).all named)) ∧ Below W.heap.size W wr) (fun _ z _ => nf - (intOf z).toNat)
    case atStart => exact ⟨0, _, rfl, rfl, Nat.zero_le _, Lib.hid (by simp), Below.refl _ _⟩
    case round =>
      obtain ⟨k, q, rfl, rfl, hk, hq, hbr⟩ := hrel
      have hcr := HCW.out.below hbr HCW.out.lt
      have d0 := hcr.c 0 _ rfl
      have d1 := hcr.c 1 _ rfl
      have d2 := hcr.c 2 _ rfl
      have d3 := hcr.c 3 _ rfl
      by_cases hkn : k < nf
      · have hdec : decide ((k : Int) < (nf : Int)) = true := by simpa using hkn
        obtain ⟨gf, rfl, hgf1, hgf2, hgf3, hgf4⟩ := hfo (by omega)
        have hkw : IntKind.i64.wrap ((k : Int) + 1) = (k : Int) + 1 := IntWalk.i64_in _ (by unfold maxLen at hgf4; omega)
        obtain ⟨x, hx⟩ : ∃ x, (wordsL e.word)[k]? = some x := ⟨_, List.getElem?_eq_getElem (by rw [HNF.out]; exact hkn)⟩
        have r0 := (hbr.cell (p := ⟨gf, k, none⟩) (by show gf < _; omega)).trans (strs_at (n := nf) (by have := HOW.out; rw [← HNF.out] at this ⊢; exact this) k x hx)
        have hxs := Nat.le_trans (wordsL_le _ x (List.mem_of_getElem? hx)) (HSZ.out e (by simp))
        have hF := fun v : World => rnamed_any ⟨x.toArray⟩ v (by show x.length ≤ _; omega)
        rw [show (⟨x.toArray⟩ : ByteArray).data.toList = x from rfl] at hF
        have hq2 : (q && named x) = (q0 && ((wordsL e.word).take (k + 1)).all named) := by
          obtain ⟨h1, h2⟩ := List.getElem?_eq_some_iff.1 hx
          rw [hq.out, List.take_succ_eq_append_getElem h1, h2, List.all_append, Bool.and_assoc]
          simp
        obtain ⟨bx, hbx⟩ : ∃ bx : ByteArray, (⟨x.toArray⟩ : ByteArray) = bx := ⟨_, rfl⟩
        rw [hbx] at r0 hF
        have HF := Lib.hid hF
        have HQ2 := Lib.hid hq2
        clear hF hq2 hbx hx hq hgf1
        cases q with
        | true =>
          go_wp2_with fail
          refine (HF.out _).mono ?_; rintro e' w' ⟨rfl, rfl⟩
          go_wp2_with fail
          exact ⟨⟨k + 1, _, rfl, vint (by omega), by omega, Lib.hid (by rw [← HQ2.out]; simp), hbr⟩, by simp only [intOf]; omega⟩
        | false =>
          go_wp2_with fail
          exact ⟨⟨k + 1, _, rfl, vint (by omega), by omega, Lib.hid (by rw [← HQ2.out]; simp), hbr⟩, by simp only [intOf]; omega⟩
      · have hdec : decide ((k : Int) < (nf : Int)) = false := by simpa using hkn
        have hq2 : q = (q0 && (wordsL e.word).all named) := by rw [hq.out, List.take_of_length_le (by rw [HNF.out]; omega)]
        have HQ2 := Lib.hid hq2
        clear hq hq2
        have hrr := HRW.out.below hbr HRW.out.lt
        have z0 := hrr.c 0 _ rfl
        have z1 := hrr.c 1 _ rfl
        have z2 := hrr.c 2 _ rfl
        have z3 := hrr.c 3 _ rfl
        have zf := hrr.fz
        have hrl := hrr.lt
        go_wp2_with fail
        have hco : classOf [a, b, c, d, e, f] at_ = ⟨c.word, if a.word = wNil then [] else a.word, wordsL e.word, at_⟩ := rfl
        have hok : classOk [a, b, c, d, e, f] = q := by rw [HQ2.out, ← HQ0.out]; rfl
        have hbV0 := (HB2.out.trans (hbW.mono HB2.out.size)).trans (hbr.mono (Nat.le_trans HB2.out.size hbW.size))
        have hoV0 := own_below HOW.out hbr
        have hh0 := hrr.set_ 0 (.string ⟨c.word.toArray⟩) _ rfl
        have ho0 := own_set hoV0 hrr (by decide) 0 (.string ⟨c.word.toArray⟩)
        have hbv0 := hbV0.setCell (p := ⟨w.heap.size, 0, none⟩) (Nat.le_refl _) (.string ⟨c.word.toArray⟩)
        have hh1 := hh0.set_ 1 ((.string na)) _ rfl
        have ho1 := own_set ho0 hh0 (by decide) 1 ((.string na))
        have hbv1 := hbv0.setCell (p := ⟨w.heap.size, 1, none⟩) (Nat.le_refl _) ((.string na))
        have hh2 := hh1.set_ 2 (.slice fo nf fc) _ rfl
        have ho2 := own_set ho1 hh1 (by decide) 2 (.slice fo nf fc)
        have hbv2 := hbv1.setCell (p := ⟨w.heap.size, 2, none⟩) (Nat.le_refl _) (.slice fo nf fc)
        have hh3 := hh2.set_ 3 (.int .i64 (at_ : Int)) _ rfl
        have ho3 := own_set ho2 hh2 (by decide) 3 (.int .i64 (at_ : Int))
        have hbv3 := hbv2.setCell (p := ⟨w.heap.size, 3, none⟩) (Nat.le_refl _) (.int .i64 (at_ : Int))
        obtain ⟨V, hV⟩ : ∃ V, ((((wr.setCell ⟨w.heap.size, 0, none⟩ (.string ⟨c.word.toArray⟩)).setCell ⟨w.heap.size, 1, none⟩ ((.string na))).setCell ⟨w.heap.size, 2, none⟩ (.slice fo nf fc)).setCell ⟨w.heap.size, 3, none⟩ (.int .i64 (at_ : Int))) = V := ⟨_, rfl⟩
        rw [hV] at hh3 ho3 hbv3 ⊢
        clear hV hh0 hh1 hh2 ho0 ho1 ho2 hbv0 hbv1 hbv2 hoV0 hbV0 z0 z1 z2 z3 zf d0 d1 d2 d3
        have HBV := Lib.hid hbv3
        have HOV := Lib.hid (own_mono ho3 HB2.out.size)
        clear hbv3 ho3
        have z0 := hh3.c 0 _ rfl
        have z1 := hh3.c 1 _ rfl
        have z2 := hh3.c 2 _ rfl
        have z3 := hh3.c 3 _ rfl
        have HCO := Lib.hid hco
        have HOK := Lib.hid hok
        clear hco hok
        refine bodyPost_ret (v := .tuple #[.agg #[.string ⟨c.word.toArray⟩, (.string na), .slice fo nf fc, .int .i64 (at_ : Int)], .bool q]) (by simp [results, Tryz.results21, go_sem, z0, z1, z2, z3]) rfl ?_
        rw [HCO.out, HOK.out]
        refine ⟨HBV.out, .slice fo nf fc, ?_, ?_⟩
        · show _ = Ending.returned (.tuple #[.agg #[strV c.word, strV (if a.word = wNil then [] else a.word), .slice fo nf fc, .int .i64 (at_ : Int)], .bool q])
          rw [hSUP.out]; rfl
        · show Strs w.heap.size (.slice fo nf fc) (wordsL e.word) V
          unfold Strs
          rw [HNF.out]; exact HOV.out
end Ck
end Go.Proofs.YthdigbkcffihkaaGreatDoor
namespace Go.Proofs.YthdigbkcffihkaaGreatDoor
open Go.RowKit
namespace Ck
open Lx
variable {w : World}
/-- What class hands back. -/
def RClsAny (l : List Tok) (at_ : Nat) (w : World) (e : Ending) (w' : World) : Prop :=
  if classSh l = true then RClassed (classOf l at_) (classOk l) w e w' else Below w.heap.size w w' ∧ e = .returned (.tuple #[.agg #[.string ⟨#[]⟩, .string ⟨#[]⟩, .slice none 0 0, .int .i64 0], .bool false])
theorem rclass_any {g m cap : Nat} {l : List Tok} (hl : Rows_ g l w) (hg : g < w.heap.size) (hm : l.length = m) (hc : m ≤ cap) (at_ : Nat) (hsz : ∀ t ∈ l, t.word.length ≤ 4096) :
    Calls Tryz.prog 21 #[.slice (some ⟨g, 0, none⟩) m cap, .int .i64 (at_ : Int)] w (RClsAny l at_ w) := by
  have hx : ∀ {l : List Tok}, classSh l = false → (∀ {R : Ending → World → Prop}, R = (fun e w' => Below w.heap.size w w' ∧ e = .returned (.tuple #[.agg #[.string ⟨#[]⟩, .string ⟨#[]⟩, .slice none 0 0, .int .i64 0], .bool false])) → RClsAny l at_ w = R) := by
    intro l h R hR
    subst hR
    funext e w'
    unfold RClsAny
    rw [if_neg (by rw [h]; decide)]
  match l, hl, hm, hsz with
  | [a, b, c, d, e, f], hl, hm, hsz =>
    subst hm
    by_cases ha : a.kind = 1
    · cases hi1 : is1 b 2 wSub with
      | false => rw [hx (by simp [classSh, hi1]) rfl]; exact rclass_b hl hg hc at_ ha hi1
      | true =>
        by_cases hc5 : c.kind = 5
        · cases hi2 : is1 d 2 wFields with
          | false => rw [hx (by simp [classSh, hi2]) rfl]; exact rclass_d hl hg hc at_ ha hi1 hc5 hi2
          | true =>
            by_cases he4 : e.kind = 4
            · have hs : classSh [a, b, c, d, e, f] = true := by simp [classSh, ha, hi1, hc5, hi2, he4]
              have hR : RClsAny [a, b, c, d, e, f] at_ w = RClassed (classOf [a, b, c, d, e, f] at_) (classOk [a, b, c, d, e, f]) w := by
                funext e' w'
                unfold RClsAny
                rw [if_pos hs]
              rw [hR]
              exact rclass_ok hl hg hc at_ ha hi1 hc5 hi2 he4 hsz
            · rw [hx (by simp [classSh, he4]) rfl]; exact rclass_e hl hg hc at_ ha hi1 hc5 hi2 he4
        · rw [hx (by simp [classSh, hc5]) rfl]; exact rclass_c hl hg hc at_ ha hi1 hc5
    · rw [hx (by simp [classSh, ha]) rfl]; exact rclass_a hl hg hc at_ ha
  | [], hl, hm, hsz => rw [hx rfl rfl]; exact rclass_x (by rw [← hm]; decide) hc hg at_
  | [a], hl, hm, hsz => rw [hx rfl rfl]; exact rclass_x (by rw [← hm]; simp) hc hg at_
  | [a, b], hl, hm, hsz => rw [hx rfl rfl]; exact rclass_x (by rw [← hm]; simp) hc hg at_
  | [a, b, c], hl, hm, hsz => rw [hx rfl rfl]; exact rclass_x (by rw [← hm]; simp) hc hg at_
  | [a, b, c, d], hl, hm, hsz => rw [hx rfl rfl]; exact rclass_x (by rw [← hm]; simp) hc hg at_
  | [a, b, c, d, e], hl, hm, hsz => rw [hx rfl rfl]; exact rclass_x (by rw [← hm]; simp) hc hg at_
  | a :: b :: c :: d :: e :: f :: g' :: r, hl, hm, hsz => rw [hx rfl rfl]; exact rclass_x (by rw [← hm]; simp) hc hg at_
end Ck
end Go.Proofs.YthdigbkcffihkaaGreatDoor
namespace Go.Proofs.YthdigbkcffihkaaGreatDoor
open Go.RowKit
namespace Ck
open Lx
/-- What the reference's Read hands back. -/
def RReaded (x : Except Err (List Cls × List Src)) (w : World) (e : Ending) (w' : World) : Prop :=
  Below w.heap.size w w' ∧ match x with
  | .error (p, n) => e = .returned (.tuple #[.agg #[.slice none 0 0, .slice none 0 0], .int .i64 (p : Int), .int .i64 n]) ∧ n ≠ 0
  | .ok (cs, ss) => ∃ cv sv, e = .returned (.tuple #[.agg #[cv, sv], .int .i64 0, .int .i64 0]) ∧ UnitsG RCT RST w.heap.size cv sv cs ss w'
set_option maxRecDepth 100000 in
set_option maxHeartbeats 800000 in
theorem rread_big (s : ByteArray) (w : World) (hbig : 65536 < s.size) :
    Calls Tryz.prog 9 #[.string s] w (RReaded (readR s.data.toList) w) := by
  have hr : readR s.data.toList = .error (0, 2) := by unfold readR; rw [if_pos (show 65536 < s.data.toList.length from hbig)]
  rw [hr]
  have hdec : decide ((65536 : Int) < (s.size : Int)) = true := decide_eq_true (by omega)
  clear hr
  go_enter Tryz.func9, Tryz.ntmps9
  go_wp2_with fail
  have e0 := (Blk.made (T := RUT) (cs := #[.slice none 0 0, .slice none 0 0]) w).c 0 _ rfl
  have e1 := (Blk.made (T := RUT) (cs := #[.slice none 0 0, .slice none 0 0]) w).c 1 _ rfl
  refine bodyPost_ret (v := .tuple #[.agg #[.slice none 0 0, .slice none 0 0], .int .i64 0, .int .i64 2]) (by simp [results, Tryz.results9, go_sem, e0, e1]) rfl ?_
  exact ⟨(Below.refl _ _).alloc (Nat.le_refl _) _, rfl, by decide⟩
/-- The reference's reader: its unit (block n + 1), the header that is open (block n + 2). -/
def RRd (n : Nat) (st : Rst) (w : World) : Prop :=
  ∃ (cv sv o0 o1 : Value), Blk RUT (n + 1) #[cv, sv] w ∧ UnitsG RCT RST (n + 3) cv sv st.cs st.ss w ∧ Blk RST (n + 2) #[o0, o1, .string ⟨#[]⟩, .int .i64 0] w ∧ (∀ c m, st.opn = some (c, m) → o0 = strV c ∧ o1 = .bool m)
theorem RRd.below {n : Nat} {st : Rst} {w w' : World} (h : RRd n st w) (hb : Below w.heap.size w w') : RRd n st w' := by
  obtain ⟨cv, sv, o0, o1, h1, h2, h3, h4⟩ := h
  exact ⟨cv, sv, o0, o1, h1.below hb h1.lt, h2.below hb, h3.below hb h3.lt, h4⟩
theorem rowsG_of_own {w : World} {base e : Nat} {v : Value} {l : List Tok} (h : w.ownsRow base e 4 v l.length (flat l)) (hne : l ≠ []) :
    ∃ g cap, v = .slice (some ⟨g, 0, none⟩) l.length cap ∧ base ≤ g ∧ g < w.heap.size ∧ l.length ≤ cap ∧ cap ≤ maxLen ∧ Rows_ g l w := by
  have hc := @World.ownsRow.cells _ _ _ _ _ _ _ h
  have hlt := @World.ownsRow.lt _ _ _ _ _ _ _ h
  rcases h.2 with ⟨_, h0⟩ | ⟨g, cap, cur, rfl, hb, hg, hnc, hcm, _⟩
  · exact absurd (List.eq_nil_of_length_eq_zero h0) hne
  · refine ⟨g, cap, rfl, hb, (hlt g rfl).2, hnc, hcm, fun i t ht => ?_⟩
    have hh := fun j u hu => hc (g := g) rfl (i * 4 + j) u (flat_at l i t ht j u hu)
    have ha : ∀ k : Nat, (⟨g, 0, none⟩ : Addr).add k = ⟨g, k, none⟩ := fun k => by unfold Addr.add; split <;> simp_all
    simp only [ha] at hh
    exact ⟨hh 0 _ rfl, hh 1 _ rfl, hh 2 _ rfl, hh 3 _ rfl⟩
theorem rcls_form {l : List Tok} {at_ : Nat} {w w' : World} {e : Ending} (h : RClsAny l at_ w e w') : Below w.heap.size w w' ∧ ∃ (na nb : ByteArray) (fo : Option Addr) (nf fc : Nat) (ci : Int) (ok : Bool),
    e = .returned (.tuple #[.agg #[.string na, .string nb, .slice fo nf fc, .int .i64 ci], .bool ok]) ∧ (ok = true ↔ classSh l = true ∧ classOk l = true) ∧
    (ok = true → strV (classOf l at_).name = .string na ∧ strV (classOf l at_).super = .string nb ∧ ci = (at_ : Int) ∧ (classOf l at_).at_ = at_ ∧ nf = (classOf l at_).fields.length ∧ Strs w.heap.size (.slice fo nf fc) (classOf l at_).fields w') := by
  unfold RClsAny at h
  by_cases hs : classSh l = true
  · rw [if_pos hs] at h
    obtain ⟨hb, fv, rfl, hf⟩ := h
    have hf0 := hf
    obtain ⟨fo, fc, rfl, -⟩ := own_slice hf
    exact ⟨hb, _, _, fo, _, fc, _, _, rfl, ⟨fun h => ⟨hs, h⟩, fun h => h.2⟩, fun _ => ⟨rfl, rfl, rfl, rfl, rfl, hf0⟩⟩
  · rw [if_neg hs] at h
    obtain ⟨hb, rfl⟩ := h
    exact ⟨hb, _, _, _, _, _, _, _, rfl, ⟨fun h => (by cases h), fun h => absurd h.1 hs⟩, fun h => (by cases h)⟩
theorem rhead_form {x : Option (Bytes × Bool)} {w w' : World} {e : Ending} (h : RHeaded x w e w') : Below w.heap.size w w' ∧ ∃ (hs : ByteArray) (hm hd : Bool),
    e = .returned (.tuple #[.agg #[.string hs, .bool hm, .string ⟨#[]⟩, .int .i64 0], .bool hd]) ∧ hd = x.isSome ∧ ∀ c m, x = some (c, m) → strV c = .string hs ∧ m = hm := by
  obtain ⟨hb, rfl⟩ := h
  refine ⟨hb, ?_⟩
  cases x with
  | none => exact ⟨_, _, _, rfl, rfl, fun c m h => (by cases h)⟩
  | some o => obtain ⟨c, m⟩ := o; exact ⟨_, _, _, rfl, rfl, fun c' m' h => (by cases h; exact ⟨rfl, rfl⟩)⟩
section
variable {w w' : World} {B e size n k T : Nat} {v : Value} {xs : List Value} {cs : Array Value}
theorem blk_grown_at (hk : Blk T k cs w) (hg : w.grownBy w' v.ownBlock) (h : w.ownsRow B e size v n xs) (hkB : k < B) : Blk T k cs w' :=
  (hg.block k hk.lt (fun h' => by have := (h.lt k h'.symm).1; omega)).trans hk
theorem own_set_at (h : w.ownsRow B e size v n xs) (hkB : k < B) (i : Nat) (u : Value) : (w.setCell ⟨k, i, none⟩ u).ownsRow B e size v n xs :=
  h.kept (row := some k) ⟨rfl, rfl, rfl, by simp [World.setCell], fun j _ hj => Below.heap_setCell _ _ _ _ (fun e => hj (by simp [e]))⟩ (.inr (fun h' => by have := (h.lt k h').1; omega))
theorem UnitsG.set_at {C S : Nat} {cv sv : Value} {cs : List Cls} {ss : List Src} (h : UnitsG C S B cv sv cs ss w) (hkB : k < B) (i : Nat) (u : Value) : UnitsG C S B cv sv cs ss (w.setCell ⟨k, i, none⟩ u) := by
  obtain ⟨cl, h1, h2, h3, h4⟩ := h
  exact ⟨cl, h1, own_set_at h2 hkB i u, fun x hx => own_set_at (h3 x hx) hkB i u, own_set_at h4 hkB i u⟩
end
theorem stepL_nil (a : Nat) (st : Rst) : stepL ([], a) st = .ok { st with opn := none } := by unfold stepL; rw [if_pos rfl]
theorem stepL_some {tx : Bytes} (h : tx ≠ []) (a : Nat) {st : Rst} {c : Bytes} {m : Bool} (ho : st.opn = some (c, m)) : stepL (tx, a) st = .ok { st with ss := st.ss ++ [⟨c, m, tx, a⟩] } := by
  unfold stepL; rw [if_neg h, ho]
theorem stepL_take {tx : Bytes} (h : tx ≠ []) (a : Nat) {st : Rst} (ho : st.opn = none) : stepL (tx, a) st = takeL (tx, a) st := by
  unfold stepL; rw [if_neg h, ho]
set_option maxRecDepth 100000 in
set_option maxHeartbeats 3200000 in
theorem rread_small (s : ByteArray) (w : World) (hbig : ¬ 65536 < s.size) :
    Calls Tryz.prog 9 #[.string s] w (RReaded (readR s.data.toList) w) := by
  have hdec : decide ((65536 : Int) < (s.size : Int)) = false := decide_eq_false (by omega)
  rw [readR_go s.data.toList (by show s.size ≤ 65536; omega)]
  obtain ⟨E, hE⟩ : ∃ E, endR s.data.toList (goR s.data.toList (s.data.toList.length + 1) 0 ⟨[], [], none⟩) = E := ⟨_, rfl⟩
  rw [hE]
  have HE := Lib.hid hE
  clear hE
  obtain ⟨ic, hic, hc0, hc1, hc2⟩ := info_parts (show (Tryz.prog.info? RCT).map (fun i => (i.zero, i.size, i.bytes)) = some (some (.agg #[.string ⟨#[]⟩, .string ⟨#[]⟩, .slice none 0 0, .int .i64 0]), 4, 64) by kernel_rfl)
  obtain ⟨is, his, hs0, hs1, hs2'⟩ := info_parts (show (Tryz.prog.info? RST).map (fun i => (i.zero, i.size, i.bytes)) = some (some (.agg #[.string ⟨#[]⟩, .bool false, .string ⟨#[]⟩, .int .i64 0]), 4, 48) by kernel_rfl)
  have tss : Tryz.prog.underlying 31 = some (.slice RST) := by kernel_rfl
  have tsc : Tryz.prog.underlying 30 = some (.slice RCT) := by kernel_rfl
  go_enter Tryz.func9, Tryz.ntmps9
  go_wp2_with fail
  have hz0 := Blk.made (T := RUT) (cs := #[.slice none 0 0, .slice none 0 0]) w
  have hw0 : Below w.heap.size w (w.alloc (.cells #[.slice none 0 0, .slice none 0 0] RUT)) := (Below.refl _ w).alloc (Nat.le_refl _) _
  have hq0 : (w.alloc (.cells #[.slice none 0 0, .slice none 0 0] RUT)).heap.size = w.heap.size + 1 := by simp
  obtain ⟨W0, hW0⟩ : ∃ v, w.alloc (.cells #[.slice none 0 0, .slice none 0 0] RUT) = v := ⟨_, rfl⟩
  rw [hW0] at hz0 hw0 hq0 ⊢
  have hz1 := hz0.alloc (.cells #[.slice none 0 0, .slice none 0 0] RUT)
  have hu1 := Blk.made (T := RUT) (cs := #[.slice none 0 0, .slice none 0 0]) W0
  have hw1 := hw0.alloc (B := w.heap.size) (by omega) (.cells #[.slice none 0 0, .slice none 0 0] RUT)
  have hq1 : (W0.alloc (.cells #[.slice none 0 0, .slice none 0 0] RUT)).heap.size = w.heap.size + 2 := by simp [hq0]
  rw [hq0] at hu1
  obtain ⟨W1, hW1⟩ : ∃ v, W0.alloc (.cells #[.slice none 0 0, .slice none 0 0] RUT) = v := ⟨_, rfl⟩
  rw [hW1] at hz1 hu1 hw1 hq1 ⊢
  have hz2 := hz1.alloc (.cells #[.string ⟨#[]⟩, .bool false, .string ⟨#[]⟩, .int .i64 0] RST)
  have hu2 := hu1.alloc (.cells #[.string ⟨#[]⟩, .bool false, .string ⟨#[]⟩, .int .i64 0] RST)
  have ho2 := Blk.made (T := RST) (cs := #[.string ⟨#[]⟩, .bool false, .string ⟨#[]⟩, .int .i64 0]) W1
  have hw2 := hw1.alloc (B := w.heap.size) (by omega) (.cells #[.string ⟨#[]⟩, .bool false, .string ⟨#[]⟩, .int .i64 0] RST)
  have hs2 : (W1.alloc (.cells #[.string ⟨#[]⟩, .bool false, .string ⟨#[]⟩, .int .i64 0] RST)).heap.size = w.heap.size + 3 := by simp [hq1]
  rw [hq1] at ho2
  obtain ⟨W2, hW2⟩ : ∃ v, W1.alloc (.cells #[.string ⟨#[]⟩, .bool false, .string ⟨#[]⟩, .int .i64 0] RST) = v := ⟨_, rfl⟩
  rw [hW2] at hz2 hu2 ho2 hw2 hs2 ⊢
  clear hW0 hW1 hW2 hz0 hz1 hu1 hw0 hw1 hq0 hq1
  have hrr : RRd w.heap.size ⟨[], [], none⟩ W2 := ⟨_, _, _, _, hu2, ⟨[], rfl, World.ownsRow_nil _ _ _ _, fun x hx => (by cases hx), World.ownsRow_nil _ _ _ _⟩, ho2, fun c m h => (by cases h)⟩
  have HRR := Lib.hid hrr
  have HZ2 := Lib.hid hz2
  have HW2 := Lib.hid hw2
  clear hrr hz2 hu2 ho2 hw2
  go_loopw [7, 8] (fun y z wr => ∃ (n i : Nat) (st : Rst), y = .bool st.opn.isSome ∧ z = .int .i64 (i : Int) ∧ i ≤ s.size ∧ s.size - i < n ∧ st.cs.length + st.ss.length ≤ i ∧ Hid (endR s.data.toList (goR s.data.toList n i st) = E) ∧ Hid (RRd w.heap.size st wr) ∧ Hid (Blk RUT w.heap.size #[.slice none 0 0, .slice none 0 0] wr) ∧ Below w.heap.size w wr ∧ w.heap.size + 3 ≤ wr.heap.size) (fun _ z _ => s.size - (intOf z).toNat)
  case atStart => exact ⟨s.size + 1, 0, _, rfl, rfl, Nat.zero_le _, by omega, by simp, HE, HRR, HZ2, HW2.out, by omega⟩
  case round =>
    obtain ⟨n, i, st, rfl, rfl, hi, hn, hlen, hgo, hrr, hz, hbw, hsz⟩ := hrel
    have hdi : decide ((i : Int) ≤ (s.size : Int)) = true := decide_eq_true (by omega)
    obtain ⟨n, rfl⟩ : ∃ m, n = m + 1 := ⟨n - 1, by omega⟩
    have hck := rchunk_any s i wr (by omega) hi
    obtain ⟨k1, k2, k3, k4, k5, k6⟩ := chunk_le s.data.toList i hi
    rw [show s.data.toList.length = s.size from rfl] at k2 k4 k5 k6
    obtain ⟨⟨tx, at_, bh, en⟩, hC⟩ : ∃ C, chunkR s.data.toList i = C := ⟨_, rfl⟩
    have hg := hgo.out
    unfold goR at hg
    rw [hC] at hck k1 k2 k3 k4 k5 k6 hg
    dsimp only at k1 k2 k3 k4 k5 k6 hg
    have HCK := Lib.hid hck
    have HG := Lib.hid hg
    have HK5 := Lib.hid k5
    clear hck hg hgo hC k5
    go_wp2_with fail
    refine HCK.out.mono ?_; rintro e w1 ⟨hb1, rfl⟩
    have hb1w := hbw.trans (hb1.mono hbw.size)
    have hz1 := hz.out.below hb1 hz.out.lt
    have z0 := hz1.c 0 _ rfl
    have z1 := hz1.c 1 _ rfl
    have zf := hz1.fz
    have zf0 := zf 0
    have zf1 := zf 1
    have hzl := hz1.lt
    have hrr1 := hrr.out.below hb1
    have dtx : (⟨tx.toArray⟩ : ByteArray).data.toList = tx := rfl
    obtain ⟨bt, hbt⟩ : ∃ b : ByteArray, (⟨tx.toArray⟩ : ByteArray) = b := ⟨_, rfl⟩
    rw [hbt] at dtx ⊢
    have HBT := Lib.hid hbt
    have HBV : Hid (strV tx = .string bt) := Lib.hid (by rw [← hbt]; rfl)
    have HZS : Hid (w.heap.size + 3 ≤ w1.heap.size) := Lib.hid (Nat.le_trans hsz hb1.size)
    have HRR1 := Lib.hid hrr1
    clear hrr hrr1 hz hbt
    cases en with
    | false =>
      have hg := HG.out
      rw [if_neg (by decide)] at hg
      by_cases hne : tx = []
      · have he : (bt.toList == []) = true := by rw [ByteArray.toList_eq, dtx, hne]; rfl
        rw [if_neg (by simpa using hne)] at hg
        obtain ⟨cv, sv, o0, o1, hu, hU, ho, _⟩ := HRR1.out
        cases hop : st.opn with
        | some cm =>
          have hE : E = .error (s.size, 4) := by rw [← hg]; unfold endR; dsimp only; rw [hop]; rfl
          have HEE := Lib.hid hE
          clear hE hg hne hu hU ho
          go_wp2_with fail
          refine bodyPost_ret (v := .tuple #[.agg #[.slice none 0 0, .slice none 0 0], .int .i64 (s.size : Int), .int .i64 4]) (by simp [results, Tryz.results9, go_sem, z0, z1]) rfl ?_
          rw [HEE.out]
          first | exact ⟨(hb1w.setCell (p := ⟨w.heap.size, 0, none⟩) (Nat.le_refl _) _).setCell (p := ⟨w.heap.size, 1, none⟩) (Nat.le_refl _) _, rfl, by decide⟩ | exact ⟨((hb1w.setCell (p := ⟨w.heap.size, 0, none⟩) (Nat.le_refl _) _).setCell (p := ⟨w.heap.size, 1, none⟩) (Nat.le_refl _) _).drew, rfl, by decide⟩
        | none =>
          have hE : E = .ok (st.cs, st.ss) := by rw [← hg]; unfold endR; dsimp only; rw [hop]; rfl
          have HEE := Lib.hid hE
          have hU0 := hU
          obtain ⟨cl, hcl, hownC, hfl, hownS⟩ := hU0
          obtain ⟨co, cc, rfl, -⟩ := own_slice hownC
          obtain ⟨so, sc, rfl, -⟩ := own_slice hownS
          have u0 := hu.c 0 _ rfl
          have u1 := hu.c 1 _ rfl
          have HU := Lib.hid hU
          clear hE hg hne hcl hownC hfl hownS hU
          go_wp2_with fail
          have hv2 := (hz1.set_ 0 (.slice co cl.length cc) _ rfl).set_ 1 (.slice so st.ss.length sc) _ rfl
          have hk1 := hz1.set_ 0 (.slice co cl.length cc) _ rfl
          have HUN : Hid (UnitsG RCT RST w.heap.size (.slice co cl.length cc) (.slice so st.ss.length sc) st.cs st.ss ((w1.setCell ⟨w.heap.size, 0, none⟩ (.slice co cl.length cc)).setCell ⟨w.heap.size, 1, none⟩ (.slice so st.ss.length sc))) := Lib.hid (by
            obtain ⟨cl', j1, j2, j3, j4⟩ := HU.out
            exact ⟨cl', j1, own_mono (own_set (own_set j2 hz1 (by decide) 0 _) hk1 (by decide) 1 _) (by omega), fun x hx => own_mono (own_set (own_set (j3 x hx) hz1 (by decide) 0 _) hk1 (by decide) 1 _) (by omega), own_mono (own_set (own_set j4 hz1 (by decide) 0 _) hk1 (by decide) 1 _) (by omega)⟩)
          have HBV := Lib.hid ((hb1w.setCell (p := ⟨w.heap.size, 0, none⟩) (Nat.le_refl _) (.slice co cl.length cc)).setCell (p := ⟨w.heap.size, 1, none⟩) (Nat.le_refl _) (.slice so st.ss.length sc))
          obtain ⟨V, hV⟩ : ∃ V, (w1.setCell ⟨w.heap.size, 0, none⟩ (.slice co cl.length cc)).setCell ⟨w.heap.size, 1, none⟩ (.slice so st.ss.length sc) = V := ⟨_, rfl⟩
          rw [hV] at hv2 HUN HBV ⊢
          clear hV hk1 z0 z1
          have y0 := hv2.c 0 _ rfl
          have y1 := hv2.c 1 _ rfl
          refine bodyPost_ret (v := .tuple #[.agg #[.slice co cl.length cc, .slice so st.ss.length sc], .int .i64 0, .int .i64 0]) (by simp [results, Tryz.results9, go_sem, y0, y1]) rfl ?_
          rw [HEE.out]
          exact ⟨HBV.out, _, _, rfl, HUN.out⟩
      · have he : (bt.toList == []) = false := by rw [beq_eq_false_iff_ne, ByteArray.toList_eq, dtx]; exact hne
        rw [if_pos (by simpa using hne)] at hg
        have HEE : Hid (E = .error (at_, 4)) := Lib.hid hg.symm
        clear hg hne
        go_wp2_with fail
        refine bodyPost_ret (v := .tuple #[.agg #[.slice none 0 0, .slice none 0 0], .int .i64 (at_ : Int), .int .i64 4]) (by simp [results, Tryz.results9, go_sem, z0, z1]) rfl ?_
        rw [HEE.out]
        first | exact ⟨(hb1w.setCell (p := ⟨w.heap.size, 0, none⟩) (Nat.le_refl _) _).setCell (p := ⟨w.heap.size, 1, none⟩) (Nat.le_refl _) _, rfl, by decide⟩ | exact ⟨((hb1w.setCell (p := ⟨w.heap.size, 0, none⟩) (Nat.le_refl _) _).setCell (p := ⟨w.heap.size, 1, none⟩) (Nat.le_refl _) _).drew, rfl, by decide⟩
    | true =>
      have hg := HG.out
      rw [if_pos rfl] at hg
      have HG2 := Lib.hid hg
      have hbh : bh ≤ s.size := HK5.out.1 rfl
      clear hg HG HK5
      obtain ⟨cv, sv, o0, o1, hu, hU, ho, hop⟩ := HRR1.out
      by_cases hne : tx = []
      · have he : (bt.toList == []) = true := by rw [ByteArray.toList_eq, dtx, hne]; rfl
        have hgo : Hid (endR s.data.toList (goR s.data.toList n bh { st with opn := none }) = E) := Lib.hid (by rw [← HG2.out, hne, stepL_nil])
        have HR6 : Hid (RRd w.heap.size { st with opn := none } w1) := Lib.hid ⟨cv, sv, o0, o1, hu, hU, ho, fun c m h => by cases h⟩
        have HZ6 := Lib.hid hz1
        clear HCK hu hU ho hop hz1 z0 z1 zf zf0 zf1 hne
        go_wp2_with fail
        exact ⟨⟨n, bh, _, rfl, rfl, hbh, by omega, by simp; omega, hgo, HR6, HZ6, hb1w, HZS.out⟩, by simp only [intOf]; omega⟩
      · have he : (bt.toList == []) = false := by rw [beq_eq_false_iff_ne, ByteArray.toList_eq, dtx]; exact hne
        clear HCK
        have hU0 := hU
        obtain ⟨cl, hcl, hownC, hfl, hownS⟩ := hU0
        obtain ⟨co, cc, rfl, -⟩ := own_slice hownC
        obtain ⟨so, sc, rfl, -⟩ := own_slice hownS
        have u0 := hu.c 0 _ rfl
        have u1 := hu.c 1 _ rfl
        have uf := hu.fz
        have hul := hu.lt
        have p0 := ho.c 0 _ rfl
        have p1 := ho.c 1 _ rfl
        have p2 := ho.c 2 _ rfl
        have p3 := ho.c 3 _ rfl
        have pf := ho.fz
        have hpl := ho.lt
        have HUN := Lib.hid hU
        have HOC := Lib.hid hownC
        have HOS := Lib.hid hownS
        have HFL := Lib.hid hfl
        have HCL := Lib.hid hcl
        have HUB := Lib.hid hu
        have HPB := Lib.hid ho
        have HZB := Lib.hid hz1
        clear hU hownC hownS hfl hcl hu ho hz1
        cases hopn : st.opn with
        | some cm =>
          obtain ⟨c, m⟩ := cm
          obtain ⟨rfl, rfl⟩ := hop c m hopn
          obtain ⟨nc, hnc⟩ : ∃ b : ByteArray, (⟨c.toArray⟩ : ByteArray) = b := ⟨_, rfl⟩
          rw [show strV c = .string nc by rw [← hnc]; rfl] at p0 HPB
          have HNC : Hid (strV c = .string nc) := Lib.hid (by rw [← hnc]; rfl)
          clear hop hnc
          simp only [Option.isSome_some]
          clear z0 z1 zf zf0 zf1
          have hsl : st.ss.length ≤ 1099511627 := by omega
          go_wp2_with (at_builtin; refine wpList_append_own _ rfl _ _ 31 rfl (w.heap.size + 3) RST is (.agg #[.string ⟨#[]⟩, .bool false, .string ⟨#[]⟩, .int .i64 0]) 4 48 tss his hs0 hs1 hs2' rfl (by decide) _ _ _ rfl (HOS.out.alloc _) ⟨w1.heap.size, 0, none⟩ 1 1 [.string nc, .bool m, .string bt, .int .i64 (at_ : Int)] rfl rfl ?c1 ?c2 ?c3 ?c4 ?c5 ?_)
          case c1 => have := cells4 w1 RST (.string nc) (.bool m) (.string bt) (.int .i64 (at_ : Int)); simpa using this
          case c2 => intro u hu; simp at hu; rcases hu with rfl | rfl | rfl | rfl <;> rfl
          case c3 => unfold maxLen; omega
          case c4 => omega
          case c5 => have := HZS.out; simp; omega
          intro v6 w6 hown6 hg6 _
          obtain ⟨g6, c6, rfl⟩ := own_form hown6 (by omega)
          have hoX := HOS.out.alloc (.cells #[.string nc, .bool m, .string bt, .int .i64 (at_ : Int)] RST)
          have hbX : Below w1.heap.size w1 (w1.alloc (.cells #[.string nc, .bool m, .string bt, .int .i64 (at_ : Int)] RST)) := (Below.refl _ w1).alloc (Nat.le_refl _) _
          have hu6 := blk_grown_at (HUB.out.below hbX hul) hg6 hoX (by omega)
          have hp6 := blk_grown_at (HPB.out.below hbX hpl) hg6 hoX (by omega)
          have hz6 := blk_grown_at (HZB.out.below hbX hzl) hg6 hoX (by omega)
          have hwc6 := own_grown (own_below HOC.out hbX) hg6 hoX (by decide)
          have hfl6 : ∀ x ∈ cl, Strs (w.heap.size + 3) x.2 x.1.fields w6 := fun x hx => own_grown (own_below (HFL.out x hx) hbX) hg6 hoX (by decide)
          have hb6 := (hb1w.trans (hbX.mono hb1w.size)).grown hg6 (by have := hb1w.size; have := hbX.size; omega) (fun k hk => by have := (hoX.lt k hk).1; omega)
          have hs6 : w.heap.size + 3 ≤ w6.heap.size := Nat.le_trans (Nat.le_trans HZS.out hbX.size) hg6.size
          rw [show [Value.string nc, .bool m, .string bt, .int .i64 (at_ : Int)] = srcV ⟨c, m, tx, at_⟩ by show _ = [strV c, Value.bool m, strV tx, Value.int .i64 (at_ : Int)]; rw [HNC.out, HBV.out], ← flatS_snoc] at hown6
          have hk0 : w.heap.size + 1 < w.heap.size + 3 := by omega
          have HR6 : Hid (RRd w.heap.size { st with ss := st.ss ++ [⟨c, m, tx, at_⟩] } (w6.setCell ⟨w.heap.size + 1, 1, none⟩ (.slice (some ⟨g6, 0, none⟩) (st.ss.length + 1) c6))) := Lib.hid
            ⟨_, _, _, _, hu6.set_ 1 _ _ rfl, ⟨cl, HCL.out, own_set_at hwc6 hk0 1 _, fun x hx => own_set_at (hfl6 x hx) hk0 1 _, by rw [List.length_append]; exact own_set_at hown6 hk0 1 _⟩, hp6.far (p := ⟨w.heap.size + 1, 1, none⟩) (show w.heap.size + 2 ≠ w.heap.size + 1 by omega) _, fun c' m' h => by rw [hopn] at h; cases h; exact ⟨HNC.out.symm, rfl⟩⟩
          have HZ6 := Lib.hid (hz6.far (p := ⟨w.heap.size + 1, 1, none⟩) (show w.heap.size ≠ w.heap.size + 1 by omega) (.slice (some ⟨g6, 0, none⟩) (st.ss.length + 1) c6))
          have HB6 := Lib.hid (hb6.setCell (p := ⟨w.heap.size + 1, 1, none⟩) (by show w.heap.size ≤ w.heap.size + 1; omega) (.slice (some ⟨g6, 0, none⟩) (st.ss.length + 1) c6))
          have hs7 : w.heap.size + 3 ≤ (w6.setCell ⟨w.heap.size + 1, 1, none⟩ (.slice (some ⟨g6, 0, none⟩) (st.ss.length + 1) c6)).heap.size := by
            have h3 : (w6.setCell ⟨w.heap.size + 1, 1, none⟩ (.slice (some ⟨g6, 0, none⟩) (st.ss.length + 1) c6)).heap.size = w6.heap.size := by simp [World.setCell]
            rw [h3]; exact hs6
          have y1 := hu6.c 1 _ rfl
          have yf := hu6.fz
          have hgo : Hid (endR s.data.toList (goR s.data.toList n bh { st with ss := st.ss ++ [⟨c, m, tx, at_⟩] }) = E) := Lib.hid (by rw [← HG2.out, stepL_some hne at_ hopn])
          clear hu6 hp6 hz6 hwc6 hfl6 hb6 hown6 hg6 hoX hbX u0 u1 p0 p1 p2 p3 pf uf
          go_wp2_with fail
          exact ⟨⟨n, bh, _, by simp [hopn], rfl, hbh, by omega, by simp; omega, hgo, HR6, HZ6, HB6.out, hs7⟩, by simp only [intOf]; omega⟩
        | none =>
          simp only [Option.isSome_none]
          have hall := rall_any bt w1 (by show bt.data.toList.length ≤ _; rw [dtx]; omega)
          rw [dtx] at hall
          have HTK : Hid (endR s.data.toList (match takeL (tx, at_) st with | .error e => .error (at_, e) | .ok st' => goR s.data.toList n bh st') = E) := Lib.hid (by rw [← HG2.out, stepL_take hne at_ hopn]; cases takeL (tx, at_) st <;> rfl)
          clear HG2 hop hne dtx
          go_wp2_with fail
          refine hall.mono ?_; clear hall; rintro e w2 ⟨hb2, hpost⟩
          have hb2w := hb1w.trans (hb2.mono hb1w.size)
          have HZS2 : Hid (w.heap.size + 3 ≤ w2.heap.size) := Lib.hid (Nat.le_trans HZS.out hb2.size)
          have HUB2 := Lib.hid (HUB.out.below hb2 hul)
          have HPB2 := Lib.hid (HPB.out.below hb2 hpl)
          have HZB2 := Lib.hid (HZB.out.below hb2 hzl)
          have HUN2 := Lib.hid (HUN.out.below hb2)
          cases hal : allR tx with
          | error x =>
            obtain ⟨pp, nn⟩ := x
            rw [hal] at hpost
            dsimp only at hpost
            subst hpost
            obtain ⟨hnn, -⟩ := allF_err _ _ _ _ _ hal
            have hnd : ((nn : Int) == 0) = false := by simpa using hnn
            have hE : Hid (E = .error (at_, nn)) := Lib.hid (by rw [← HTK.out, takeL_R]; dsimp only; rw [hal]; rfl)
            have z0 := HZB2.out.c 0 _ rfl
            have z1 := HZB2.out.c 1 _ rfl
            have zf := HZB2.out.fz
            clear HTK hal
            go_wp2_with fail
            refine bodyPost_ret (v := .tuple #[.agg #[.slice none 0 0, .slice none 0 0], .int .i64 (at_ : Int), .int .i64 nn]) (by simp [results, Tryz.results9, go_sem, z0, z1]) rfl ?_
            rw [hE.out]
            exact ⟨(hb2w.setCell (p := ⟨w.heap.size, 0, none⟩) (Nat.le_refl _) _).setCell (p := ⟨w.heap.size, 1, none⟩) (Nat.le_refl _) _, rfl, hnn⟩
          | ok l =>
            rw [hal] at hpost
            obtain ⟨v, rfl, hown⟩ := hpost
            obtain ⟨l', t, hl1, hl2, -⟩ := allR_last _ _ hal
            have hlne : l ≠ [] := by rw [hl1]; simp
            obtain ⟨g, cap, rfl, hgB, hgs, hlc, hcm, hrows⟩ := rowsG_of_own hown hlne
            have hsm : ∀ t ∈ l, t.word.length ≤ 4096 := fun t ht => (allR_small _ _ hal t ht).2.2.2
            obtain ⟨m, hm⟩ : ∃ m, l.length = m := ⟨_, rfl⟩
            rw [hm] at hlc ⊢
            have HTK2 : Hid (endR s.data.toList (match (if classSh l = true ∧ classOk l = true then .ok { st with cs := st.cs ++ [classOf l at_] } else match headSh l with | some o => .ok { st with opn := some o } | none => .error (3 : Int) : Except Int Rst) with | .error e => .error (at_, e) | .ok st' => goR s.data.toList n bh st') = E) := Lib.hid (by
              rw [← HTK.out, takeL_R]; dsimp only; rw [hal]; dsimp only
              generalize (if classSh l = true ∧ classOk l = true then _ else _ : Except Int Rst) = X
              cases X <;> rfl)
            have HROW := Lib.hid hrows
            have HSM := Lib.hid hsm
            have HM := Lib.hid hm
            clear HTK hal hl1 hl2 hlne hown hrows hsm hm
            go_wp2_with fail
            refine (rclass_any HROW.out hgs HM.out hlc at_ HSM.out).mono ?_; rintro e w3 hpost
            obtain ⟨hb3, na, nb, fo, nf, fc, ci, ok, rfl, hok, hcl⟩ := rcls_form hpost
            have hb3w := hb2w.trans (hb3.mono hb2w.size)
            have HZS3 : Hid (w.heap.size + 3 ≤ w3.heap.size) := Lib.hid (Nat.le_trans HZS2.out hb3.size)
            have HUB3 := Lib.hid (HUB2.out.below hb3 HUB2.out.lt)
            have HPB3 := Lib.hid (HPB2.out.below hb3 HPB2.out.lt)
            have HZB3 := Lib.hid (HZB2.out.below hb3 HZB2.out.lt)
            have HUN3 := Lib.hid (HUN2.out.below hb3)
            have HROW3 := Lib.hid (rows_below HROW.out hb3 hgs)
            have HOK := Lib.hid hok
            have HCLF := Lib.hid hcl
            clear hpost hok hcl HROW
            go_wp2_with fail
            have hgs3 := Nat.lt_of_lt_of_le hgs hb3.size
            have hcb := Blk.made (T := RCT) (cs := #[.string na, .string nb, .slice fo nf fc, .int .i64 ci]) w3
            have hcB : Below w3.heap.size w3 (w3.alloc (.cells #[.string na, .string nb, .slice fo nf fc, .int .i64 ci] RCT)) := (Below.refl _ _).alloc (Nat.le_refl _) _
            obtain ⟨W4, hW4⟩ : ∃ W4, w3.alloc (.cells #[.string na, .string nb, .slice fo nf fc, .int .i64 ci] RCT) = W4 := ⟨_, rfl⟩
            rw [hW4] at hcb hcB ⊢
            have hgs4 := Nat.lt_of_lt_of_le hgs3 hcB.size
            obtain ⟨CB, hCB⟩ : ∃ CB, w3.heap.size = CB := ⟨_, rfl⟩
            have HCB3 := Lib.hid (show w.heap.size + 3 ≤ CB by rw [← hCB]; exact HZS3.out)
            have hrow4 := rows_below HROW3.out hcB hgs3
            have HCBB := Lib.hid hcB
            rw [hCB] at hcb ⊢
            clear hW4 hCB HROW3
            refine (rheader_any hrow4 hgs4 HM.out hlc).mono ?_; rintro e w5 hpost
            obtain ⟨hb5, hsn, hmm, hd, rfl, hhd, hhv⟩ := rhead_form hpost
            have HHD := Lib.hid hhd
            have HHV := Lib.hid hhv
            have h35 : Below w3.heap.size w3 w5 := HCBB.out.trans (hb5.mono HCBB.out.size)
            have h15 : Below w1.heap.size w1 w5 := (hb2.trans (hb3.mono hb2.size)).trans (h35.mono (Nat.le_trans hb2.size hb3.size))
            have hb5w := hb3w.trans (h35.mono hb3w.size)
            have HZS5 : Hid (w.heap.size + 3 ≤ w5.heap.size) := Lib.hid (Nat.le_trans HZS3.out h35.size)
            have HC5 := Lib.hid (hcb.below hb5 hcb.lt)
            have H35 := Lib.hid h35
            clear hpost hrow4 hhd hhv hcb hcB h35 hb1 hb2 hb3 hb5 HUB2 HPB2 HZB2 HUN2 HUB3 HPB3 HZB3 HUN3 HCBB hgs3 hgs4
            cases ok with
            | true =>
              obtain ⟨hcsh, hcok⟩ := HOK.out.1 rfl
              obtain ⟨e1, e2, e3, e4, e5, hstr⟩ := HCLF.out rfl
              have HE1 := Lib.hid e1
              have HE2 := Lib.hid e2
              have HE4 := Lib.hid e4
              have HE5 := Lib.hid e5
              have HSTR := Lib.hid (own_below hstr H35.out)
              have hgo : Hid (endR s.data.toList (goR s.data.toList n bh { st with cs := st.cs ++ [classOf l at_] }) = E) := Lib.hid (by
                have h := HTK2.out
                rw [if_pos ⟨hcsh, hcok⟩] at h
                exact h)
              clear e1 e2 e4 e5 hstr hcsh hcok HTK2 HOK HCLF
              subst e3
              go_upto_region 25 with fail
              have hX : Below w5.heap.size w5 (w5.alloc (.cells #[.string hsn, .bool hmm, .string ⟨#[]⟩, .int .i64 0] RST)) := (Below.refl _ w5).alloc (Nat.le_refl _) _
              obtain ⟨W6, hW6⟩ : ∃ W6, w5.alloc (.cells #[.string hsn, .bool hmm, .string ⟨#[]⟩, .int .i64 0] RST) = W6 := ⟨_, rfl⟩
              rw [hW6] at hX ⊢
              clear hW6
              have h16 := h15.trans (hX.mono h15.size)
              have hb6w := hb5w.trans (hX.mono hb5w.size)
              have hs6 : w.heap.size + 3 ≤ W6.heap.size := Nat.le_trans HZS5.out hX.size
              have HU6 := Lib.hid (HUB.out.below h16 hul)
              have HP6 := Lib.hid (HPB.out.below h16 hpl)
              have HZ6 := Lib.hid (HZB.out.below h16 hzl)
              have HOC6 := Lib.hid (own_below HOC.out h16)
              have HOS6 := Lib.hid (own_below HOS.out h16)
              have HFL6 : Hid (∀ x ∈ cl, Strs (w.heap.size + 3) x.2 x.1.fields W6) := Lib.hid (fun x hx => own_below (HFL.out x hx) h16)
              have HST6 := Lib.hid (own_mono (own_below HSTR.out hX) HZS2.out)
              have hc6 := HC5.out.below hX HC5.out.lt
              have c0 := hc6.c 0 _ rfl
              have c1 := hc6.c 1 _ rfl
              have c2 := hc6.c 2 _ rfl
              have c3 := hc6.c 3 _ rfl
              have v0 := HU6.out.c 0 _ rfl
              have vf := HU6.out.fz
              have hcll : cl.length = st.cs.length := by rw [← HCL.out, List.length_map]
              have HCLL := Lib.hid hcll
              have hn6 : cl.length ≤ 1099511627 := by omega
              have HB6W := Lib.hid hb6w
              clear hcll hc6 HC5 HSTR hX h15 h16 hb5w hb6w HUB HPB HZB HUN HOC HOS HFL u0 u1 uf p0 p1 p2 p3 pf z0 z1 zf zf0 zf1
              go_wp2_with (at_builtin; refine wpList_append_own _ rfl _ _ 30 rfl (w.heap.size + 3) RCT ic (.agg #[.string ⟨#[]⟩, .string ⟨#[]⟩, .slice none 0 0, .int .i64 0]) 4 64 tsc hic hc0 hc1 hc2 rfl (by decide) _ _ _ rfl (HOC6.out.alloc _) ⟨W6.heap.size, 0, none⟩ 1 1 [.string na, .string nb, .slice fo nf fc, .int .i64 (at_ : Int)] rfl rfl ?c1 ?c2 ?c3 ?c4 ?c5 ?_)
              case c1 => have := cells4 W6 RCT (.string na) (.string nb) (.slice fo nf fc) (.int .i64 (at_ : Int)); simpa using this
              case c2 => intro u hu; simp at hu; rcases hu with rfl | rfl | rfl | rfl <;> rfl
              case c3 => unfold maxLen; omega
              case c4 => omega
              case c5 => simp; omega
              intro v8 w8 hown8 hg8 _
              obtain ⟨g8, c8, rfl⟩ := own_form hown8 (by omega)
              have hoX := HOC6.out.alloc (.cells #[.string na, .string nb, .slice fo nf fc, .int .i64 (at_ : Int)] RCT)
              have hbX : Below W6.heap.size W6 (W6.alloc (.cells #[.string na, .string nb, .slice fo nf fc, .int .i64 (at_ : Int)] RCT)) := (Below.refl _ W6).alloc (Nat.le_refl _) _
              have hu8 := blk_grown_at (HU6.out.below hbX HU6.out.lt) hg8 hoX (by omega)
              have hp8 := blk_grown_at (HP6.out.below hbX HP6.out.lt) hg8 hoX (by omega)
              have hz8 := blk_grown_at (HZ6.out.below hbX HZ6.out.lt) hg8 hoX (by omega)
              have hws8 := own_grown (own_below HOS6.out hbX) hg8 hoX (by decide)
              have hst8 := own_grown (own_below HST6.out hbX) hg8 hoX (by decide)
              have hfl8 : ∀ x ∈ cl, Strs (w.heap.size + 3) x.2 x.1.fields w8 := fun x hx => own_grown (own_below (HFL6.out x hx) hbX) hg8 hoX (by decide)
              have hb8 := (HB6W.out.trans (hbX.mono HB6W.out.size)).grown hg8 (by have := HB6W.out.size; have := hbX.size; omega) (fun k hk => by have := (hoX.lt k hk).1; omega)
              have hs8 : w.heap.size + 3 ≤ w8.heap.size := Nat.le_trans (Nat.le_trans hs6 hbX.size) hg8.size
              rw [show [Value.string na, .string nb, .slice fo nf fc, .int .i64 (at_ : Int)] = clsV (classOf l at_, .slice fo nf fc) by show _ = [strV (classOf l at_).name, strV (classOf l at_).super, Value.slice fo nf fc, Value.int .i64 ((classOf l at_).at_ : Int)]; rw [HE1.out, HE2.out, HE4.out], ← flatC_snoc] at hown8
              have hk0 : w.heap.size + 1 < w.heap.size + 3 := by omega
              have HR8 : Hid (RRd w.heap.size { st with cs := st.cs ++ [classOf l at_] } (w8.setCell ⟨w.heap.size + 1, 0, none⟩ (.slice (some ⟨g8, 0, none⟩) (cl.length + 1) c8))) := Lib.hid
                ⟨_, _, _, _, hu8.set_ 0 _ _ rfl, ⟨cl ++ [(classOf l at_, .slice fo nf fc)], by simp [HCL.out], by rw [List.length_append]; exact own_set_at hown8 hk0 0 _, fun x hx => by
                  rcases List.mem_append.1 hx with hx | hx
                  · exact own_set_at (hfl8 x hx) hk0 0 _
                  · obtain rfl := List.mem_singleton.1 hx
                    exact own_set_at hst8 hk0 0 _, own_set_at hws8 hk0 0 _⟩, hp8.far (p := ⟨w.heap.size + 1, 0, none⟩) (show w.heap.size + 2 ≠ w.heap.size + 1 by omega) _, fun c' m' h => by rw [hopn] at h; cases h⟩
              have HZ8 := Lib.hid (hz8.far (p := ⟨w.heap.size + 1, 0, none⟩) (show w.heap.size ≠ w.heap.size + 1 by omega) (.slice (some ⟨g8, 0, none⟩) (cl.length + 1) c8))
              have HB8 := Lib.hid (hb8.setCell (p := ⟨w.heap.size + 1, 0, none⟩) (by show w.heap.size ≤ w.heap.size + 1; omega) (.slice (some ⟨g8, 0, none⟩) (cl.length + 1) c8))
              have hs9 : w.heap.size + 3 ≤ (w8.setCell ⟨w.heap.size + 1, 0, none⟩ (.slice (some ⟨g8, 0, none⟩) (cl.length + 1) c8)).heap.size := by
                have h3 : (w8.setCell ⟨w.heap.size + 1, 0, none⟩ (.slice (some ⟨g8, 0, none⟩) (cl.length + 1) c8)).heap.size = w8.heap.size := by simp [World.setCell]
                rw [h3]; exact hs8
              have y1 := hu8.c 0 _ rfl
              have yf := hu8.fz
              clear hu8 hp8 hz8 hws8 hst8 hfl8 hb8 hown8 hg8 hoX hbX c0 c1 c2 c3 v0 vf
              go_wp2_with fail
              exact ⟨⟨n, bh, _, by simp [hopn], rfl, hbh, by omega, by simp; omega, hgo, HR8, HZ8, HB8.out, hs9⟩, by simp only [intOf]; omega⟩
            | false =>
              have hno : ¬ (classSh l = true ∧ classOk l = true) := fun h => (by have := HOK.out.2 h; cases this)
              have HNO := Lib.hid hno
              have HUNK := Lib.hid HUN.out
              clear hno HOK HCLF HC5 HOC HFL HCL HUN
              cases hd with
              | false =>
                have hnone : headSh l = none := by
                  have h := HHD.out
                  cases hh : headSh l with
                  | none => rfl
                  | some o => rw [hh] at h; cases h
                have hE : Hid (E = .error (at_, 3)) := Lib.hid (by
                  have h := HTK2.out
                  rw [if_neg HNO.out, hnone] at h
                  exact h.symm)
                clear HTK2 hnone u0 u1 uf p0 p1 p2 p3 pf z0 z1 zf zf0 zf1
                go_upto_region 23 with fail
                have hX : Below w5.heap.size w5 (w5.alloc (.cells #[.string hsn, .bool hmm, .string ⟨#[]⟩, .int .i64 0] RST)) := (Below.refl _ w5).alloc (Nat.le_refl _) _
                obtain ⟨W6, hW6⟩ : ∃ W6, w5.alloc (.cells #[.string hsn, .bool hmm, .string ⟨#[]⟩, .int .i64 0] RST) = W6 := ⟨_, rfl⟩
                rw [hW6] at hX ⊢
                have h16 := h15.trans (hX.mono h15.size)
                have hb6w := hb5w.trans (hX.mono hb5w.size)
                have hz5 := HZB.out.below h16 hzl
                have z0 := hz5.c 0 _ rfl
                have z1 := hz5.c 1 _ rfl
                have zf := hz5.fz
                clear hW6 hX h16 hz5
                go_wp2_with fail
                refine bodyPost_ret (v := .tuple #[.agg #[.slice none 0 0, .slice none 0 0], .int .i64 (at_ : Int), .int .i64 3]) (by simp [results, Tryz.results9, go_sem, z0, z1]) rfl ?_
                rw [hE.out]
                first | exact ⟨(hb6w.setCell (p := ⟨w.heap.size, 0, none⟩) (Nat.le_refl _) _).setCell (p := ⟨w.heap.size, 1, none⟩) (Nat.le_refl _) _, rfl, by decide⟩ | exact ⟨((hb6w.setCell (p := ⟨w.heap.size, 0, none⟩) (Nat.le_refl _) _).setCell (p := ⟨w.heap.size, 1, none⟩) (Nat.le_refl _) _).drew, rfl, by decide⟩
              | true =>
                obtain ⟨⟨cc', mm'⟩, hsome⟩ : ∃ o, headSh l = some o := by
                  have h := HHD.out
                  cases hh : headSh l with
                  | none => rw [hh] at h; cases h
                  | some o => exact ⟨o, rfl⟩
                obtain ⟨j1, rfl⟩ := HHV.out cc' mm' hsome
                have HJ1 := Lib.hid j1
                have hgo : Hid (endR s.data.toList (goR s.data.toList n bh { st with opn := some (cc', mm') }) = E) := Lib.hid (by
                  have h := HTK2.out
                  rw [if_neg HNO.out, hsome] at h
                  exact h)
                clear HTK2 hsome j1 HHV HHD
                go_upto_region 26 with fail
                have hX : Below w5.heap.size w5 (w5.alloc (.cells #[.string hsn, .bool mm', .string ⟨#[]⟩, .int .i64 0] RST)) := (Below.refl _ w5).alloc (Nat.le_refl _) _
                have hk6 := Blk.made (T := RST) (cs := #[.string hsn, .bool mm', .string ⟨#[]⟩, .int .i64 0]) w5
                obtain ⟨W6, hW6⟩ : ∃ W6, w5.alloc (.cells #[.string hsn, .bool mm', .string ⟨#[]⟩, .int .i64 0] RST) = W6 := ⟨_, rfl⟩
                rw [hW6] at hX hk6 ⊢
                obtain ⟨HB, hHB⟩ : ∃ HB, w5.heap.size = HB := ⟨_, rfl⟩
                have h16 := h15.trans (hX.mono h15.size)
                have hb6w := hb5w.trans (hX.mono hb5w.size)
                have hs6 : w.heap.size + 3 ≤ W6.heap.size := Nat.le_trans HZS5.out hX.size
                have hhb : w.heap.size + 3 ≤ HB := by rw [← hHB]; exact HZS5.out
                rw [hHB] at hk6 ⊢
                have HU6 := Lib.hid (HUB.out.below h16 hul)
                have hp6 := HPB.out.below h16 hpl
                have HZ6 := Lib.hid (HZB.out.below h16 hzl)
                have HUN6 := Lib.hid (HUNK.out.below h16)
                have k0 := hk6.c 0 _ rfl
                have k1 := hk6.c 1 _ rfl
                have k2 := hk6.c 2 _ rfl
                have k3 := hk6.c 3 _ rfl
                have p0 := hp6.c 0 _ rfl
                have p1 := hp6.c 1 _ rfl
                have p2 := hp6.c 2 _ rfl
                have p3 := hp6.c 3 _ rfl
                have pf := hp6.fz
                have HP6 := Lib.hid hp6
                have HB6W := Lib.hid hb6w
                have HS6 := Lib.hid hs6
                clear hW6 hHB hX h15 h16 hb5w hb6w HUB HPB HZB u0 u1 uf z0 z1 zf zf0 zf1 hk6 hp6 hs6
                go_wp2_with fail
                have hk0 : w.heap.size + 2 < w.heap.size + 3 := by omega
                have hne1 : w.heap.size + 1 ≠ w.heap.size + 2 := by omega
                have hne0 : w.heap.size ≠ w.heap.size + 2 := by omega
                have HR8 : Hid (RRd w.heap.size { st with opn := some (cc', mm') } ((((W6.setCell ⟨w.heap.size + 2, 0, none⟩ (.string hsn)).setCell ⟨w.heap.size + 2, 1, none⟩ (.bool mm')).setCell ⟨w.heap.size + 2, 2, none⟩ (.string ⟨#[]⟩)).setCell ⟨w.heap.size + 2, 3, none⟩ (.int .i64 0))) := Lib.hid
                  ⟨_, _, _, _, (((HU6.out.far (p := ⟨w.heap.size + 2, 0, none⟩) hne1 _).far (p := ⟨w.heap.size + 2, 1, none⟩) hne1 _).far (p := ⟨w.heap.size + 2, 2, none⟩) hne1 _).far (p := ⟨w.heap.size + 2, 3, none⟩) hne1 _,
                    (((HUN6.out.set_at hk0 0 _).set_at hk0 1 _).set_at hk0 2 _).set_at hk0 3 _,
                    (((HP6.out.set_ 0 (.string hsn) _ rfl).set_ 1 (.bool mm') _ rfl).set_ 2 (.string ⟨#[]⟩) _ rfl).set_ 3 (.int .i64 0) _ rfl, fun c' m' h => by cases h; exact ⟨HJ1.out.symm, rfl⟩⟩
                have HZ8 := Lib.hid ((((HZ6.out.far (p := ⟨w.heap.size + 2, 0, none⟩) hne0 (.string hsn)).far (p := ⟨w.heap.size + 2, 1, none⟩) hne0 (.bool mm')).far (p := ⟨w.heap.size + 2, 2, none⟩) hne0 (.string ⟨#[]⟩)).far (p := ⟨w.heap.size + 2, 3, none⟩) hne0 (.int .i64 0))
                have hl : ∀ (x : World) (i : Nat) (v : Value), Below w.heap.size w x → Below w.heap.size w (x.setCell ⟨w.heap.size + 2, i, none⟩ v) := fun x i v h => h.setCell (p := ⟨w.heap.size + 2, i, none⟩) (by show w.heap.size ≤ w.heap.size + 2; omega) v
                have HB8 := Lib.hid (hl _ 3 (.int .i64 0) (hl _ 2 (.string ⟨#[]⟩) (hl _ 1 (.bool mm') (hl _ 0 (.string hsn) HB6W.out))))
                have hs9 : w.heap.size + 3 ≤ ((((W6.setCell ⟨w.heap.size + 2, 0, none⟩ (.string hsn)).setCell ⟨w.heap.size + 2, 1, none⟩ (.bool mm')).setCell ⟨w.heap.size + 2, 2, none⟩ (.string ⟨#[]⟩)).setCell ⟨w.heap.size + 2, 3, none⟩ (.int .i64 0)).heap.size := by
                  simp only [World.setCell, Array.size_modify]; exact HS6.out
                exact ⟨⟨n, bh, _, by simp, rfl, hbh, by omega, by simp; omega, hgo, HR8, HZ8, HB8.out, hs9⟩, by simp only [intOf]; omega⟩
end Ck
end Go.Proofs.YthdigbkcffihkaaGreatDoor
namespace Go.Proofs.YthdigbkcffihkaaGreatDoor
open Go.RowKit
namespace Ck
open Lx
theorem rread_any (s : ByteArray) (w : World) :
    Calls Tryz.prog 9 #[.string s] w (RReaded (readR s.data.toList) w) := by
  by_cases h : 65536 < s.size
  · exact rread_big s w h
  · exact rread_small s w h
/-- What is handed back, of either kind. -/
def outR (x : Except Err (List Cls × List Src)) : (Int × Int) × List Cls × List Src := match x with
  | .error (p, n) => (((p : Int), n), [], [])
  | .ok (cs, ss) => ((0, 0), cs, ss)
theorem readed_form {x : Except Err (List Cls × List Src)} {w w' : World} {e : Ending} (h : Readed x w e w') : Below w.heap.size w w' ∧ ∃ co nc cc so ns sc,
    e = .returned (.tuple #[.agg #[.slice co nc cc, .slice so ns sc], .int .i64 (outR x).1.1, .int .i64 (outR x).1.2]) ∧ Units w.heap.size (.slice co nc cc) (.slice so ns sc) (outR x).2.1 (outR x).2.2 w' := by
  obtain ⟨hb, hm⟩ := h
  refine ⟨hb, ?_⟩
  match x, hm with
  | .error (p, n), hm => exact ⟨_, _, _, _, _, _, hm.1, [], rfl, World.ownsRow_nil _ _ _ _, fun x hx => (by cases hx), World.ownsRow_nil _ _ _ _⟩
  | .ok (cs, ss), hm =>
    obtain ⟨cv, sv, rfl, hU⟩ := hm
    have hU0 := hU
    obtain ⟨cl, hcl, hownC, hfl, hownS⟩ := hU0
    obtain ⟨co, cc, rfl, -⟩ := own_slice hownC
    obtain ⟨so, sc, rfl, -⟩ := own_slice hownS
    exact ⟨_, _, _, _, _, _, rfl, hU⟩
theorem rreaded_form {x : Except Err (List Cls × List Src)} {w w' : World} {e : Ending} (h : RReaded x w e w') : Below w.heap.size w w' ∧ ∃ co nc cc so ns sc,
    e = .returned (.tuple #[.agg #[.slice co nc cc, .slice so ns sc], .int .i64 (outR x).1.1, .int .i64 (outR x).1.2]) ∧ UnitsG RCT RST w.heap.size (.slice co nc cc) (.slice so ns sc) (outR x).2.1 (outR x).2.2 w' := by
  obtain ⟨hb, hm⟩ := h
  refine ⟨hb, ?_⟩
  match x, hm with
  | .error (p, n), hm => exact ⟨_, _, _, _, _, _, hm.1, [], rfl, World.ownsRow_nil _ _ _ _, fun x hx => (by cases hx), World.ownsRow_nil _ _ _ _⟩
  | .ok (cs, ss), hm =>
    obtain ⟨cv, sv, rfl, hU⟩ := hm
    have hU0 := hU
    obtain ⟨cl, hcl, hownC, hfl, hownS⟩ := hU0
    obtain ⟨co, cc, rfl, -⟩ := own_slice hownC
    obtain ⟨so, sc, rfl, -⟩ := own_slice hownS
    exact ⟨_, _, _, _, _, _, rfl, hU⟩
theorem outR_few (s : Bytes) : (outR (readR s)).2.1.length ≤ 1099511627 ∧ (outR (readR s)).2.2.length ≤ 1099511627 ∧ ∀ c ∈ (outR (readR s)).2.1, c.fields.length ≤ 1099511627 := by
  cases h : readR s with
  | error x => obtain ⟨p, n⟩ := x; exact ⟨by simp [outR], by simp [outR], fun c hc => (by cases hc)⟩
  | ok x => obtain ⟨cs, ss⟩ := x; exact read_few h
theorem own_len {w : World} {B e size n m c : Nat} {o : Option Addr} {xs : List Value} (h : w.ownsRow B e size (.slice o n c) m xs) : n = m ∧ (0 < m → ∃ gg, o = some ⟨gg, 0, none⟩ ∧ B ≤ gg ∧ gg < w.heap.size ∧ m ≤ c ∧ c ≤ maxLen) := by
  obtain ⟨ao, c', hx, hxo⟩ := own_slice h
  cases hx
  exact ⟨rfl, hxo⟩
set_option maxRecDepth 100000 in
set_option maxHeartbeats 3200000 in
theorem reads_walk (s : ByteArray) (w : World) (_ : s.size ≤ 9223372036854775807) (hev : ErrVar w) : Calls Tryz.prog 3 #[.string s] w (Back (.bool true) w) := by
  obtain ⟨S1, hS1, hS7⟩ : ∃ S1 : ByteArray, cutB s 70000 = S1 ∧ S1.size ≤ 70000 := ⟨_, rfl, cutB_le s 70000⟩
  have hR := fun v (h : ErrVar v) => (read_any S1 v h).mono (fun _ _ h => readed_form h)
  have hRR := fun v => (rread_any S1 v).mono (fun _ _ h => rreaded_form h)
  have hF := outR_few S1.data.toList
  obtain ⟨⟨⟨p, n⟩, cs, ss⟩, hX⟩ : ∃ X, outR (readR S1.data.toList) = X := ⟨_, rfl⟩
  rw [hX] at hR hRR hF
  dsimp only at hR hRR hF
  have HR := Lib.hid hR
  have HRR := Lib.hid hRR
  have HF := Lib.hid hF
  have HEV := Lib.hid hev
  have HS1 := Lib.hid hS1
  clear hev hS1 hR hRR hF hX
  go_enter Tryz.func3, Tryz.ntmps3
  go_wp2_with fail
  refine (awake12_any _ HEV.out).mono ?_; rintro e w1 ⟨rfl, hb1⟩
  go_upto_if 16 with fail
  go_cut [0] (fun s0 wx => s0 = .string S1 ∧ wx = w1)
  case first =>
    have hS1 := HS1.out
    unfold cutB at hS1
    by_cases hS : 70000 < s.size
    · rw [if_pos hS] at hS1
      have hdS : decide ((70000 : Int) < (s.size : Int)) = true := decide_eq_true (by omega)
      have hxS : 70000 ≤ s.size := by omega
      go_wp2_with fail
      go_meet
      exact ⟨rfl, rfl⟩
    · rw [if_neg hS] at hS1
      have hdS : decide ((70000 : Int) < (s.size : Int)) = false := decide_eq_false (by omega)
      go_wp2_with fail
      go_meet
      exact ⟨by rw [hS1], rfl⟩
  case rest =>
  obtain ⟨rfl, hwc⟩ := hcut
  rw [hwc]
  clear hwc
  go_wp2_with fail
  refine (HR.out _ (HEV.out.below hb1)).mono ?_; rintro e w2 ⟨hb2, co, nc, cc, so, ns, sc, rfl, hU⟩
  have hb2 := hb1.trans (hb2.mono hb1.size)
  go_wp2_with fail
  have hx2 := Blk.made (T := UT) (cs := #[.slice co nc cc, .slice so ns sc]) w2
  have hbx : Below w2.heap.size w2 (w2.alloc (.cells #[.slice co nc cc, .slice so ns sc] UT)) := (Below.refl _ _).alloc (Nat.le_refl _) _
  have hbW := hb2.trans (hbx.mono hb2.size)
  have hUW := hU.below hbx
  obtain ⟨W2, hW2⟩ : ∃ W2, w2.alloc (.cells #[.slice co nc cc, .slice so ns sc] UT) = W2 := ⟨_, rfl⟩
  rw [hW2] at hx2 hbx hbW hUW ⊢
  obtain ⟨XB, hXB⟩ : ∃ XB, w2.heap.size = XB := ⟨_, rfl⟩
  rw [hXB] at hx2 ⊢
  clear hW2 hXB hbx hU hb2
  refine (HRR.out W2).mono ?_; rintro e w3 ⟨hb3, co2, nc2, cc2, so2, ns2, sc2, rfl, hV⟩
  have hx3 := hx2.below hb3 hx2.lt
  have hU3 := hUW.below hb3
  have hb3 := hbW.trans (hb3.mono hbW.size)
  clear hx2 hUW hbW
  go_upto_region 7 with fail
  have hy3 := Blk.made (T := RUT) (cs := #[.slice co2 nc2 cc2, .slice so2 ns2 sc2]) w3
  have hby : Below w3.heap.size w3 (w3.alloc (.cells #[.slice co2 nc2 cc2, .slice so2 ns2 sc2] RUT)) := (Below.refl _ _).alloc (Nat.le_refl _) _
  have hbY := hb3.trans (hby.mono hb3.size)
  have hUY := hU3.below hby
  have hVY := hV.below hby
  have hxY := hx3.below hby hx3.lt
  obtain ⟨W3, hW3⟩ : ∃ W3, w3.alloc (.cells #[.slice co2 nc2 cc2, .slice so2 ns2 sc2] RUT) = W3 := ⟨_, rfl⟩
  rw [hW3] at hy3 hby hbY hUY hVY hxY ⊢
  obtain ⟨YB, hYB⟩ : ∃ YB, w3.heap.size = YB := ⟨_, rfl⟩
  rw [hYB] at hy3 ⊢
  clear hW3 hYB hby hb3 hU3 hV hx3
  have x0 := hxY.c 0 _ rfl
  have x1 := hxY.c 1 _ rfl
  have HT := Lib.hid (told_at hUY HF.out)
  have HY3 := Lib.hid hy3
  have HVY := Lib.hid hVY
  clear hUY hVY
  go_wp2_with fail
  refine (HT.out _ (Below.refl _ _)).mono ?_; rintro e w4 ⟨hb4, -, xo, xn, xc, yo, yn, yc, rfl, hC, hS⟩
  have hy4 := HY3.out.below hb4 HY3.out.lt
  have hV4 := HVY.out.below hb4
  have hb4w := hbY.trans (hb4.mono hbY.size)
  have hlXB := hxY.lt
  go_upto_region 8 with fail
  have hz4 := Blk.made (T := RUT) (cs := #[.slice xo xn xc, .slice yo yn yc]) w4
  have hbz : Below w4.heap.size w4 (w4.alloc (.cells #[.slice xo xn xc, .slice yo yn yc] RUT)) := (Below.refl _ _).alloc (Nat.le_refl _) _
  have hb4z := hb4w.trans (hbz.mono hb4w.size)
  have hVz := hV4.below hbz
  have hyz := hy4.below hbz hy4.lt
  have hCz := hC.below hbz
  have hSz := hS.below hbz
  obtain ⟨W4, hW4⟩ : ∃ W4, w4.alloc (.cells #[.slice xo xn xc, .slice yo yn yc] RUT) = W4 := ⟨_, rfl⟩
  rw [hW4] at hz4 hbz hb4z hVz hyz hCz hSz ⊢
  obtain ⟨ZB, hZB⟩ : ∃ ZB, w4.heap.size = ZB := ⟨_, rfl⟩
  rw [hZB] at hz4 ⊢
  clear hW4 hZB hbz hb4w hV4 hy4 hC hS x0 x1 HT HY3 HVY
  have hUz : UnitsG RCT RST W3.heap.size (.slice xo xn xc) (.slice yo yn yc) cs ss W4 := by
    obtain ⟨cl, a1, a2, a3⟩ := hCz
    exact ⟨cl, a1, a2, a3, hSz⟩
  have hsm := same_any (w := W4) hUz hVz rfl rfl
  have HSM := Lib.hid hsm
  have HVZ := Lib.hid hVz
  have HUZ := Lib.hid hUz
  clear hsm hVz hCz hSz hUz
  have y0 := hyz.c 0 _ rfl
  have y1 := hyz.c 1 _ rfl
  have z0 := hz4.c 0 _ rfl
  have z1 := hz4.c 1 _ rfl
  go_wp2_with fail
  refine HSM.out.mono ?_; rintro e w5 ⟨rfl, hb5⟩
  have hV5 := HVZ.out.below hb5
  have hU5 := HUZ.out.below hb5
  have hy5 := hyz.below hb5 hyz.lt
  have hz5 := hz4.below hb5 hz4.lt
  have hb5w := hb4z.trans (hb5.mono hb4z.size)
  clear HSM HVZ HUZ hyz hz4 y0 y1 z0 z1 hb4z hb5
  obtain ⟨la, hla, hCa, -, hSa⟩ := hU5
  obtain ⟨lb, hlb, hCb, -, hSb⟩ := hV5
  obtain ⟨rfl, hxo⟩ := own_len hCa
  obtain ⟨rfl, hco⟩ := own_len hCb
  obtain ⟨rfl, hyo⟩ := own_len hSa
  obtain ⟨rfl, hso⟩ := own_len hSb
  have e1 : la.length = cs.length := by rw [← hla, List.length_map]
  have e2 : lb.length = cs.length := by rw [← hlb, List.length_map]
  have HEQ := Lib.hid (show la.map (·.1) = lb.map (·.1) by rw [hla, hlb])
  have E1 := Lib.hid e1
  have E2 := Lib.hid e2
  have HCA := Lib.hid hCa
  have HCB := Lib.hid hCb
  have HSA := Lib.hid hSa
  have HSB := Lib.hid hSb
  rw [e1] at hxo ⊢
  rw [e2] at hco
  obtain ⟨nn, hnn⟩ : ∃ nn, cs.length = nn := ⟨_, rfl⟩
  obtain ⟨ns, hns⟩ : ∃ ns, ss.length = ns := ⟨_, rfl⟩
  rw [e1] at hz5
  rw [e2] at hy5
  rw [hnn] at hxo hco hz5 hy5 ⊢
  rw [hns] at hyo hso hz5 hy5 ⊢
  have HNN := Lib.hid hnn
  have HNS := Lib.hid hns
  have HZ5 := Lib.hid hz5
  have HY5 := Lib.hid hy5
  clear e1 e2 hla hlb hCa hCb hSa hSb hnn hns hxY hlXB
  have z0 := hz5.c 0 _ rfl
  have y0 := hy5.c 0 _ rfl
  have z1 := hz5.c 1 _ rfl
  have y1 := hy5.c 1 _ rfl
  have hzl5 := hz5.lt
  have hyl5 := hy5.lt
  clear hz5 hy5
  have H5 := Lib.hid hb5w
  clear hb5w
  go_wp2_with fail
  go_loopw [50] (fun y wr => ∃ k : Nat, y = .int .i64 (k : Int) ∧ k ≤ nn ∧ Below w5.heap.size w5 wr) (fun y _ => nn - (intOf y).toNat)
  case atStart => exact ⟨0, rfl, Nat.zero_le _, Below.refl _ _⟩
  case round =>
    obtain ⟨k, rfl, hk, hbr⟩ := hrel
    have z0r := (hbr.cell (p := ⟨ZB, 0, none⟩) hzl5).trans z0
    have y0r := (hbr.cell (p := ⟨YB, 0, none⟩) hyl5).trans y0
    by_cases hkn : k < nn
    · have hdec : decide ((k : Int) < (nn : Int)) = true := by simpa using hkn
      obtain ⟨ga, rfl, -, ha2, ha3, ha4⟩ := hxo (by omega)
      obtain ⟨gb, rfl, -, hb2, hb3, -⟩ := hco (by omega)
      have hkw : IntKind.i64.wrap ((k : Int) + 1) = (k : Int) + 1 := IntWalk.i64_in _ (by unfold maxLen at ha4; omega)
      obtain ⟨xa, hxa⟩ : ∃ x, la[k]? = some x := ⟨_, List.getElem?_eq_getElem (by rw [E1.out, HNN.out]; exact hkn)⟩
      obtain ⟨xb, hxb⟩ : ∃ x, lb[k]? = some x := ⟨_, List.getElem?_eq_getElem (by rw [E2.out, HNN.out]; exact hkn)⟩
      have hkey : xa.1 = xb.1 := by
        have h1 : (la.map (·.1))[k]? = some xa.1 := by rw [List.getElem?_map, hxa]; rfl
        rw [HEQ.out, List.getElem?_map, hxb] at h1
        exact (Option.some.inj h1).symm
      obtain ⟨-, -, -, c3⟩ := cls_at (own_below HCA.out hbr) k xa hxa
      obtain ⟨-, -, -, d3⟩ := cls_at (own_below HCB.out hbr) k xb hxb
      rw [← hkey] at d3
      obtain ⟨za, hza⟩ : ∃ z : Int, (xa.1.at_ : Int) = z := ⟨_, rfl⟩
      rw [hza] at c3 d3
      clear hkey hza hxa hxb z0 y0
      go_wp2_with fail
      go_region
      go_wp2_with fail
      exact ⟨⟨k + 1, by simp, by omega, hbr.drew⟩, by simp only [intOf]; omega⟩
    · obtain rfl : k = nn := by omega
      have hdec : decide ((k : Int) < (k : Int)) = false := by simp
      have z1r := (hbr.cell (p := ⟨ZB, 1, none⟩) hzl5).trans z1
      have y1r := (hbr.cell (p := ⟨YB, 1, none⟩) hyl5).trans y1
      clear z0 y0 z0r y0r z1 y1
      go_wp2_with fail
      go_loopw [70] (fun y wx => ∃ k : Nat, y = .int .i64 (k : Int) ∧ k ≤ ns ∧ Below wr.heap.size wr wx) (fun y _ => ns - (intOf y).toNat)
      case atStart => exact ⟨0, rfl, Nat.zero_le _, Below.refl _ _⟩
      case round =>
        obtain ⟨j, rfl, hj, hbx⟩ := hrel
        have hbrx := hbr.trans (hbx.mono hbr.size)
        have z1x := (hbx.cell (p := ⟨ZB, 1, none⟩) (Nat.lt_of_lt_of_le hzl5 hbr.size)).trans z1r
        have y1x := (hbx.cell (p := ⟨YB, 1, none⟩) (Nat.lt_of_lt_of_le hyl5 hbr.size)).trans y1r
        by_cases hjn : j < ns
        · have hdec : decide ((j : Int) < (ns : Int)) = true := by simpa using hjn
          obtain ⟨ga, rfl, -, ha2, ha3, ha4⟩ := hyo (by omega)
          obtain ⟨gb, rfl, -, hb2, hb3, -⟩ := hso (by omega)
          have hkw : IntKind.i64.wrap ((j : Int) + 1) = (j : Int) + 1 := IntWalk.i64_in _ (by unfold maxLen at ha4; omega)
          obtain ⟨xa, hxa⟩ : ∃ x, ss[j]? = some x := ⟨_, List.getElem?_eq_getElem (by rw [HNS.out]; exact hjn)⟩
          obtain ⟨-, -, -, c3⟩ := srcs_atG (own_below HSA.out hbrx) j xa hxa
          obtain ⟨-, -, -, d3⟩ := srcs_atG (own_below HSB.out hbrx) j xa hxa
          obtain ⟨za, hza⟩ : ∃ z : Int, (xa.at_ : Int) = z := ⟨_, rfl⟩
          rw [hza] at c3 d3
          clear hza hxa z1r y1r
          go_wp2_with fail
          go_region
          go_wp2_with fail
          exact ⟨⟨j + 1, by simp, by omega, hbx.drew⟩, by simp only [intOf]; omega⟩
        · obtain rfl : j = ns := by omega
          have hdec : decide ((j : Int) < (j : Int)) = false := by simp
          go_wp2_with fail
          go_ret
          exact ⟨rfl, H5.out.trans (hbrx.mono H5.out.size)⟩
end Ck
end Go.Proofs.YthdigbkcffihkaaGreatDoor
