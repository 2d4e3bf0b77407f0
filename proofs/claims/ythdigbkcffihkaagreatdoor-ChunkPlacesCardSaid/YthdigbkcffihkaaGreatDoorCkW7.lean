/- Package chunk, the walk, 7: take. -/
import Derived.Test.YthdigbkcffihkaaGreatDoorCkW6
import Derived.Test.YthdigbkcffihkaaGreatDoorLxE3
set_option linter.unusedVariables false
namespace Go.Proofs.YthdigbkcffihkaaGreatDoor
open Go.RowKit
namespace Ck
open Lx
variable {w : World}
/-- What take does. -/
def Taked (B R : Nat) (x : Except Int Rst) (w : World) (e : Ending) (w' : World) : Prop :=
  Below B w w' ∧ KeepC w w' ∧ match x with
  | .error n => e = .returned (.int .i64 n) ∧ n ≠ 0
  | .ok st' => e = .returned (.int .i64 0) ∧ Rdr B R st' w'
theorem fits_length : ∀ (sh : List (Nat × Bytes)) (l : List Tok), fitsL sh l = true → l.length = sh.length := fun sh l h => by
  by_cases he : sh.length = l.length
  · exact he.symm
  · rw [fits_len sh l he] at h; cases h
theorem Rdr.opened {B R k : Nat} {st : Rst} {w w' : World} {c : Bytes} {m : Bool} (h : Rdr B R st w) (hb : Below w.heap.size w w') (hk : w.heap.size ≤ k) (hB : B ≤ w.heap.size) (hblk : Blk SrT k #[strV c, .bool m, .string ⟨#[]⟩, .int .i64 0] w') : Rdr B R { st with opn := some (c, m) } (w'.setCell ⟨R, 2, none⟩ (.pointer (some ⟨k, 0, none⟩))) := by
  obtain ⟨cv, sv, ov, cl, h1, h2, h3, h4, h5, h6, h7, h8⟩ := h
  have h2' := h2.below hb h2.lt
  have hne : sv.ownBlock ≠ some k := fun hh => by have := (h6.lt k hh).2; omega
  have hop : OpnAt B (.pointer (some ⟨k, 0, none⟩)) sv (some (c, m)) w' := ⟨k, rfl, Nat.le_trans hB hk, hblk, hne⟩
  exact ⟨cv, sv, _, cl, h1, h2'.set_ 2 _ _ rfl, h3, own_set (own_below h4 hb) h2' (by decide) 2 _, fun x hx => own_set (own_below (h5 x hx) hb) h2' (by decide) 2 _, own_set (own_below h6 hb) h2' (by decide) 2 _, h7, hop.set_ h2' (by decide) 2 _⟩
theorem Rdr.closed {B R : Nat} {st : Rst} {w : World} (h : Rdr B R st w) : Rdr B R { st with opn := none } (w.setCell ⟨R, 2, none⟩ (.pointer none)) := by
  obtain ⟨cv, sv, ov, cl, h1, h2, h3, h4, h5, h6, h7, h8⟩ := h
  exact ⟨cv, sv, _, cl, h1, h2.set_ 2 _ _ rfl, h3, own_set h4 h2 (by decide) 2 _, fun x hx => own_set (h5 x hx) h2 (by decide) 2 _, own_set h6 h2 (by decide) 2 _, h7, rfl⟩
theorem Rdr.blk {B R : Nat} {st : Rst} {w : World} (h : Rdr B R st w) : B ≤ R ∧ ∃ cv sv ov, Blk RdT R #[cv, sv, ov] w := by
  obtain ⟨cv, sv, ov, cl, h1, h2, _⟩ := h
  exact ⟨h1, cv, sv, ov, h2⟩
/-- A block without text is none of the sources' row. -/
theorem src_free {B k : Nat} {w : World} {sv : Value} {l : List Src} {c : Bytes} {m : Bool} (h : w.ownsRow B SrT 4 sv l.length (flatS l)) (ht : ∀ x ∈ l, x.text ≠ []) (hne : l ≠ []) (hk : Blk SrT k #[strV c, .bool m, .string ⟨#[]⟩, .int .i64 0] w) : sv.ownBlock ≠ some k := by
  rcases h.2 with ⟨rfl, _⟩ | ⟨gg, cp, cur, rfl, _⟩
  · intro h; cases h
  · intro hh
    have hh : some gg = some k := hh
    cases hh
    cases l with
    | nil => exact hne rfl
    | cons x l =>
      have h2 := World.ownsRow.cells h (g := k) rfl 2 (strV x.text) (by unfold flatS; simp [srcV])
      have e : (⟨k, 0, none⟩ : Addr).add 2 = ⟨k, 2, none⟩ := by unfold Addr.add; split <;> simp_all
      rw [e, hk.c 2 _ rfl] at h2
      have h2 : Value.string ⟨#[]⟩ = strV x.text := by simpa using h2
      have : x.text = [] := by
        unfold strV at h2
        injection h2 with h2
        have := congrArg (fun b : ByteArray => b.data.toList) h2
        simpa using this.symm
      exact ht x (by simp) this
set_option maxRecDepth 100000 in
set_option maxHeartbeats 3200000 in
theorem take_any {B R : Nat} {st : Rst} (tx : ByteArray) (at_ : Nat) (hR : Rdr B R st w) (hB : B ≤ w.heap.size) (hsz : tx.size ≤ 1099511627) (hcs : st.cs.length ≤ 1099511627) (hev : ErrVar w) :
    Calls Tryz.prog 18 #[.pointer (some ⟨R, 0, none⟩), .agg #[.string tx, .int .i64 (at_ : Int)]] w (Taked B R (takeL (tx.data.toList, at_) st) w) := by
  have hA := All_any tx (w.alloc (.cells #[.string tx, .int .i64 (at_ : Int)] PT)) (by omega) (hev.below ((Below.refl _ _).alloc (Nat.le_refl _) _))
  have hb0 : Below w.heap.size w (w.alloc (.cells #[.string tx, .int .i64 (at_ : Int)] PT)) := (Below.refl _ _).alloc (Nat.le_refl _) _
  have hP0 : Blk PT w.heap.size #[.string tx, .int .i64 (at_ : Int)] (w.alloc (.cells #[.string tx, .int .i64 (at_ : Int)] PT)) := Blk.made w
  have hT : takeL (tx.data.toList, at_) st = match allR tx.data.toList with
    | .error (_, e) => .error e
    | .ok l =>
      if fitsL shClass l then (if classOk l then .ok { st with cs := st.cs ++ [classOf l at_] } else .error 3)
      else if fitsL shHeader l then .ok { st with opn := some (wd l 0, false) }
      else if fitsL shMetas l then .ok { st with opn := some (wd l 0, true) }
      else .error 3 := rfl
  rw [hT]
  clear hT
  cases hx : allR tx.data.toList with
  | error y =>
    obtain ⟨p, n⟩ := y
    rw [hx] at hA
    have hn := (allR_err _ _ _ hx).1
    have hnb : (n != 0) = true := by simpa using hn
    clear hx hev
    go_enter Tryz.func18, Tryz.ntmps18
    go_wp2_with fail
    refine hA.mono ?_; rintro e w1 ⟨hb1, rfl⟩
    have hb1 := hb0.trans (hb1.mono hb0.size)
    go_wp2_with fail
    go_ret
    exact ⟨hb1.mono hB, .of hb1, rfl, hn⟩
  | ok l =>
    rw [hx] at hA
    obtain ⟨l', t', hl1, hl2, hl3⟩ := allR_last _ _ hx
    have hin := (allR_in _ _ hx).1
    have hsm := allR_small _ _ hx
    have hdl : tx.data.toList.length = tx.size := rfl
    rw [hdl] at hin
    have hne : l ≠ [] := by rw [hl1]; simp
    simp only []
    obtain ⟨Z, hZ⟩ : ∃ Z, (if fitsL shClass l then (if classOk l then .ok { st with cs := st.cs ++ [classOf l at_] } else .error 3)
      else if fitsL shHeader l then .ok { st with opn := some (wd l 0, false) }
      else if fitsL shMetas l then .ok { st with opn := some (wd l 0, true) }
      else .error 3 : Except Int Rst) = Z := ⟨_, rfl⟩
    rw [hZ]
    clear hx hev hl1 hl2 hl3
    have HSM := Lib.hid hsm
    have HR := Lib.hid hR
    clear hsm hR
    have HIN := Lib.hid hin
    clear hin
    go_enter Tryz.func18, Tryz.ntmps18
    go_wp2_with fail
    refine hA.mono ?_; rintro e w1 ⟨hb1, v, rfl, hown⟩
    obtain ⟨g, cap, rfl, hwg, hg, hcap, hcm, hrows⟩ := rows_of_own hown hne
    clear hown hA
    have hP := hP0.below hb1 hP0.lt
    have hb1 := hb0.trans (hb1.mono hb0.size)
    clear hP0 hb0
    go_wp2_with fail
    refine shapes_any.mono ?_; rintro e w2 ⟨hb2, a, b, c, rfl, ⟨ga, rfl, hga, ra⟩, ⟨gb, rfl, hgb, rb⟩, ⟨gc, rfl, hgc, rc⟩⟩
    have hrows := rows_below hrows hb2 hg
    have hP := hP.below hb2 hP.lt
    have hg := Nat.lt_of_lt_of_le hg hb2.size
    have hb2 := hb1.trans (hb2.mono hb1.size)
    clear hb1
    have fA := fun (v : World) (h : Below w2.heap.size w2 v) => fits_any (l := l) (g := g) (m := l.length) (cl := cap) (rows_below ra h hga) (rows_below hrows h hg) (Nat.lt_of_lt_of_le hga h.size) (Nat.lt_of_lt_of_le hg h.size) rfl rfl (by decide) (by have := HIN.out; omega) (Nat.le_refl _) hcap
    have fB := fun (v : World) (h : Below w2.heap.size w2 v) => fits_any (l := l) (g := g) (m := l.length) (cl := cap) (rows_below rb h hgb) (rows_below hrows h hg) (Nat.lt_of_lt_of_le hgb h.size) (Nat.lt_of_lt_of_le hg h.size) rfl rfl (by decide) (by have := HIN.out; omega) (Nat.le_refl _) hcap
    have fC := fun (v : World) (h : Below w2.heap.size w2 v) => fits_any (l := l) (g := g) (m := l.length) (cl := cap) (rows_below rc h hgc) (rows_below hrows h hg) (Nat.lt_of_lt_of_le hgc h.size) (Nat.lt_of_lt_of_le hg h.size) rfl rfl (by decide) (by have := HIN.out; omega) (Nat.le_refl _) hcap
    have FA := Lib.hid fA
    have FB := Lib.hid fB
    have FC := Lib.hid fC
    have HROWS := Lib.hid hrows
    obtain ⟨m, hm⟩ : ∃ m, l.length = m := ⟨_, rfl⟩
    rw [hm] at FA FB FC hcap ⊢
    have HM := Lib.hid hm
    clear fA fB fC ra rb rc hga hgb hgc hrows hm
    obtain ⟨qa, hqa⟩ : ∃ q, fitsL shClass l = q := ⟨_, rfl⟩
    obtain ⟨qb, hqb⟩ : ∃ q, fitsL shHeader l = q := ⟨_, rfl⟩
    obtain ⟨qc, hqc⟩ : ∃ q, fitsL shMetas l = q := ⟨_, rfl⟩
    rw [hqa] at FA
    rw [hqb] at FB
    rw [hqc] at FC
    have HQA := Lib.hid hqa
    have HQB := Lib.hid hqb
    have HQC := Lib.hid hqc
    rw [hqa, hqb, hqc] at hZ
    have HZ := Lib.hid hZ
    clear hqa hqb hqc hZ
    go_wp2_with fail
    refine (FA.out _ (Below.refl _ _)).mono ?_; rintro e w3 ⟨rfl, hb3⟩
    cases qa with
    | true =>
      have h6 : l.length = 6 := fits_length _ _ HQA.out
      have hm6 : m = 6 := by rw [← HM.out]; exact h6
      subst hm6
      have p1 := (hP.below hb3 hP.lt).c 1 _ rfl
      have hbw := hb2.trans (hb3.mono hb2.size)
      have hCl := class_any (cap := cap) at_ (HR.out.below hbw) (Nat.le_trans hB hbw.size) (rows_below HROWS.out hb3 hg) (Nat.lt_of_lt_of_le hg hb3.size) h6 hcap (fun t ht => Nat.le_trans (HSM.out t ht).2.2.2 (by decide)) hcs
      obtain ⟨qk, hqk⟩ : ∃ q, classOk l = q := ⟨_, rfl⟩
      rw [hqk] at hCl HZ
      have HCL := Lib.hid hCl
      clear hqk hCl h6 FB FC
      go_wp2_with fail
      refine HCL.out.mono ?_; rintro e w4 ⟨rfl, hb4, hk4, hR4⟩
      cases qk with
      | true =>
        have HR4 := Lib.hid hR4
        clear hR4
        go_wp2_with fail
        go_ret
        rw [← HZ.out]
        exact ⟨(hbw.mono hB).trans hb4, (KeepC.of hbw).trans hk4, rfl, HR4.out⟩
      | false =>
        clear hR4
        go_wp2_with fail
        go_ret
        rw [← HZ.out]
        exact ⟨(hbw.mono hB).trans hb4, (KeepC.of hbw).trans hk4, rfl, by decide⟩
    | false =>
      go_wp2_with fail
      refine (FB.out _ hb3).mono ?_; rintro e w4 ⟨rfl, hb4⟩
      have hb4 := hb3.trans (hb4.mono hb3.size)
      clear hb3
      cases qb with
      | true =>
        clear FA FB
        have hqc : qc = false := by
          cases qc with
          | false => rfl
          | true => exact absurd ((fits_length _ _ HQC.out).symm.trans (fits_length _ _ HQB.out)) (by decide)
        subst hqc
        have h3 : l.length = 3 := fits_length _ _ HQB.out
        have hm3 : m = 3 := by rw [← HM.out]; exact h3
        subst hm3
        obtain ⟨t0, ht0⟩ : ∃ t, l[0]? = some t := ⟨_, List.getElem?_eq_getElem (by omega)⟩
        have c1 := (rows_below HROWS.out hb4 hg 0 t0 ht0).2.1
        simp only [Nat.reduceMul, Nat.reduceAdd] at c1
        have hw0 : wd l 0 = t0.word := by unfold wd; rw [ht0]; rfl
        rw [hw0] at HZ
        obtain ⟨n0, hn0⟩ : ∃ b : ByteArray, (⟨t0.word.toArray⟩ : ByteArray) = b := ⟨_, rfl⟩
        rw [hn0] at c1
        have hbw := hb2.trans (hb4.mono hb2.size)
        have hR4 := HR.out.below hbw
        obtain ⟨hBR, cv, sv, ov, hRb⟩ := hR4.blk
        have hRlt := hRb.lt
        have rf := hRb.fz
        have r2 := hRb.c 2 _ rfl
        have hg4 := Nat.lt_of_lt_of_le hg hb4.size
        clear h3 hw0
        have HN0 : Hid (strV t0.word = .string n0) := Lib.hid (by rw [← hn0]; rfl)
        clear hn0 ht0
        have hRd : Blk _ _ _ w4.drew := hRb
        have c1d : w4.drew.cell? _ = _ := c1
        go_wp2_with fail
        go_region_with (go_at_call 38; refine Calls.mono (FC.out _ ?_) ?_; exact hb4.drew; rintro e w5 ⟨rfl, hb5⟩; have c5 := (hb5.cell (p := ⟨g, 1, none⟩) hg4).trans c1d; have rf5 : ∀ i, w5.frozen? ⟨R, i, none⟩ = false := (hRd.below hb5 hRlt).fz; have r5 := (hRd.below hb5 hRlt).c 2 _ rfl; have hR5 := (hRd.below hb5 hRlt).lt)
        all_goals
          go_wp2_with fail
          go_ret
          rw [← HZ.out]
          have hbX : Below w4.heap.size w4 (w5.alloc (.cells #[.string n0, .bool false, .string ⟨#[]⟩, .int .i64 0] SrT)) := ((Below.refl _ w4).drew.trans hb5).alloc (B := w4.heap.size) hb5.size _
          have hX := hR4.opened (c := t0.word) (m := false) hbX hb5.size (Nat.le_trans hB hbw.size) (by rw [HN0.out]; exact Blk.made w5)
          have hbF := ((hbw.mono hB).trans (hbX.mono (Nat.le_trans hB hbw.size))).setCell (p := ⟨R, 2, none⟩) hBR (.pointer (some ⟨w5.heap.size, 0, none⟩))
          have hkF := (KeepC.of (hbw.trans (hbX.mono hbw.size))).set_ ((hRb.below hbX hRlt)) 2 (.pointer (some ⟨w5.heap.size, 0, none⟩))
          rw [World.setCell_alloc_past _ _ _ _ hR5] at hX hbF hkF
          exact ⟨hbF, hkF, rfl, hX⟩
      | false =>
        go_wp2_with fail
        refine (FC.out _ hb4).mono ?_; rintro e w5 ⟨rfl, hb5⟩
        have hb5 := hb4.trans (hb5.mono hb4.size)
        clear hb4
        cases qc with
        | true =>
          clear FA FB
          have h4l : l.length = 4 := fits_length _ _ HQC.out
          have hm4 : m = 4 := by rw [← HM.out]; exact h4l
          subst hm4
          obtain ⟨t0, ht0⟩ : ∃ t, l[0]? = some t := ⟨_, List.getElem?_eq_getElem (by omega)⟩
          have c1 := (rows_below HROWS.out hb5 hg 0 t0 ht0).2.1
          simp only [Nat.reduceMul, Nat.reduceAdd] at c1
          have hw0 : wd l 0 = t0.word := by unfold wd; rw [ht0]; rfl
          rw [hw0] at HZ
          obtain ⟨n0, hn0⟩ : ∃ b : ByteArray, (⟨t0.word.toArray⟩ : ByteArray) = b := ⟨_, rfl⟩
          rw [hn0] at c1
          have hbw := hb2.trans (hb5.mono hb2.size)
          have hR4 := HR.out.below hbw
          obtain ⟨hBR, cv, sv, ov, hRb⟩ := hR4.blk
          have hRlt := hRb.lt
          have rf := hRb.fz
          have r2 := hRb.c 2 _ rfl
          have hg4 := Nat.lt_of_lt_of_le hg hb5.size
          clear h4l hw0
          have HN0 : Hid (strV t0.word = .string n0) := Lib.hid (by rw [← hn0]; rfl)
          clear hn0 ht0
          have hRd : Blk _ _ _ w5.drew := hRb
          have c1d : w5.drew.cell? _ = _ := c1
          go_wp2_with fail
          go_region_with (go_at_call 38; refine Calls.mono (FC.out _ ?_) ?_; exact hb5.drew; rintro e w6 ⟨rfl, hb6⟩; have c6 := (hb6.cell (p := ⟨g, 1, none⟩) hg4).trans c1d; have rf6 : ∀ i, w6.frozen? ⟨R, i, none⟩ = false := (hRd.below hb6 hRlt).fz; have r5 := (hRd.below hb6 hRlt).c 2 _ rfl; have hR5 := (hRd.below hb6 hRlt).lt)
          all_goals
            go_wp2_with fail
            go_ret
            rw [← HZ.out]
            have hbX : Below w5.heap.size w5 (w6.alloc (.cells #[.string n0, .bool true, .string ⟨#[]⟩, .int .i64 0] SrT)) := ((Below.refl _ w5).drew.trans hb6).alloc (B := w5.heap.size) hb6.size _
            have hX := hR4.opened (c := t0.word) (m := true) hbX hb6.size (Nat.le_trans hB hbw.size) (by rw [HN0.out]; exact Blk.made w6)
            have hbF := ((hbw.mono hB).trans (hbX.mono (Nat.le_trans hB hbw.size))).setCell (p := ⟨R, 2, none⟩) hBR (.pointer (some ⟨w6.heap.size, 0, none⟩))
            have hkF := (KeepC.of (hbw.trans (hbX.mono hbw.size))).set_ ((hRb.below hbX hRlt)) 2 (.pointer (some ⟨w6.heap.size, 0, none⟩))
            rw [World.setCell_alloc_past _ _ _ _ hR5] at hX hbF hkF
            exact ⟨hbF, hkF, rfl, hX⟩
        | false =>
          go_wp2_with fail
          go_ret
          rw [← HZ.out]
          exact ⟨(hb2.trans (hb5.mono hb2.size)).mono hB, .of (hb2.trans (hb5.mono hb2.size)), rfl, by decide⟩
end Ck
end Go.Proofs.YthdigbkcffihkaaGreatDoor
