/- Package chunk, the walk, 7: take. · Package chunk, the walk, 8: Read. · Package chunk, the walk, 9: Read, Place; awake. · ChunkPlaces: plain laws. -/
import Derived.Test.YthdigbkcffihkaaGreatDoorCkW6
import Derived.Test.YthdigbkcffihkaaGreatDoorLxE3
import Derived.Test.YthdigbkcffihkaaGreatDoorCkA
import Derived.Deep.RegionHeld3
set_option linter.unusedVariables false
namespace Go.Proofs.YthdigbkcffihkaaGreatDoor
open Go.RowKit
namespace Ck
open Lx
variable {w : World}
/-- What take does. -/
def Taked (B R : Nat) (x : Except Int Rst) (w : World) (e : Ending) (w' : World) : Prop :=
  Below B w w' ∧ KeepC w w' ∧ match x with
  | .error n => e = .returned (.int .i64 n) ∧ n ≠ 0
  | .ok st' => e = .returned (.int .i64 0) ∧ Rdr B R st' w'
theorem fits_length : ∀ (sh : List (Nat × Bytes)) (l : List Tok), fitsL sh l = true → l.length = sh.length := fun sh l h => by
  by_cases he : sh.length = l.length
  · exact he.symm
  · rw [fits_len sh l he] at h; cases h
theorem Rdr.opened {B R k : Nat} {st : Rst} {w w' : World} {c : Bytes} {m : Bool} (h : Rdr B R st w) (hb : Below w.heap.size w w') (hk : w.heap.size ≤ k) (hB : B ≤ w.heap.size) (hblk : Blk SrT k #[strV c, .bool m, .string ⟨#[]⟩, .int .i64 0] w') : Rdr B R { st with opn := some (c, m) } (w'.setCell ⟨R, 2, none⟩ (.pointer (some ⟨k, 0, none⟩))) := by
  obtain ⟨cv, sv, ov, cl, h1, h2, h3, h4, h5, h6, h7, h8⟩ := h
  have h2' := h2.below hb h2.lt
  have hne : sv.ownBlock ≠ some k := fun hh => by have := (h6.lt k hh).2; omega
  have hop : OpnAt B (.pointer (some ⟨k, 0, none⟩)) sv (some (c, m)) w' := ⟨k, rfl, Nat.le_trans hB hk, hblk, hne⟩
  exact ⟨cv, sv, _, cl, h1, h2'.set_ 2 _ _ rfl, h3, own_set (own_below h4 hb) h2' (by decide) 2 _, fun x hx => own_set (own_below (h5 x hx) hb) h2' (by decide) 2 _, own_set (own_below h6 hb) h2' (by decide) 2 _, h7, hop.set_ h2' (by decide) 2 _⟩
theorem Rdr.closed {B R : Nat} {st : Rst} {w : World} (h : Rdr B R st w) : Rdr B R { st with opn := none } (w.setCell ⟨R, 2, none⟩ (.pointer none)) := by
  obtain ⟨cv, sv, ov, cl, h1, h2, h3, h4, h5, h6, h7, h8⟩ := h
  exact ⟨cv, sv, _, cl, h1, h2.set_ 2 _ _ rfl, h3, own_set h4 h2 (by decide) 2 _, fun x hx => own_set (h5 x hx) h2 (by decide) 2 _, own_set h6 h2 (by decide) 2 _, h7, rfl⟩
theorem Rdr.blk {B R : Nat} {st : Rst} {w : World} (h : Rdr B R st w) : B ≤ R ∧ ∃ cv sv ov, Blk RdT R #[cv, sv, ov] w := by
  obtain ⟨cv, sv, ov, cl, h1, h2, _⟩ := h
  exact ⟨h1, cv, sv, ov, h2⟩
/-- A block without text is none of the sources' row. -/
theorem src_free {B k : Nat} {w : World} {sv : Value} {l : List Src} {c : Bytes} {m : Bool} (h : w.ownsRow B SrT 4 sv l.length (flatS l)) (ht : ∀ x ∈ l, x.text ≠ []) (hne : l ≠ []) (hk : Blk SrT k #[strV c, .bool m, .string ⟨#[]⟩, .int .i64 0] w) : sv.ownBlock ≠ some k := by
  rcases h.2 with ⟨rfl, _⟩ | ⟨gg, cp, cur, rfl, _⟩
  · intro h; cases h
  · intro hh
    have hh : some gg = some k := hh
    cases hh
    cases l with
    | nil => exact hne rfl
    | cons x l =>
      have h2 := World.ownsRow.cells h (g := k) rfl 2 (strV x.text) (by unfold flatS; simp [srcV])
      have e : (⟨k, 0, none⟩ : Addr).add 2 = ⟨k, 2, none⟩ := by unfold Addr.add; split <;> simp_all
      rw [e, hk.c 2 _ rfl] at h2
      have h2 : Value.string ⟨#[]⟩ = strV x.text := by simpa using h2
      have : x.text = [] := by
        unfold strV at h2
        injection h2 with h2
        have := congrArg (fun b : ByteArray => b.data.toList) h2
        simpa using this.symm
      exact ht x (by simp) this
set_option maxRecDepth 100000 in
set_option maxHeartbeats 3200000 in
theorem take_any {B R : Nat} {st : Rst} (tx : ByteArray) (at_ : Nat) (hR : Rdr B R st w) (hB : B ≤ w.heap.size) (hsz : tx.size ≤ 1099511627) (hcs : st.cs.length ≤ 1099511627) (hev : ErrVar w) :
    Calls Tryz.prog 18 #[.pointer (some ⟨R, 0, none⟩), .agg #[.string tx, .int .i64 (at_ : Int)]] w (Taked B R (takeL (tx.data.toList, at_) st) w) := by
  have hA := All_any tx (w.alloc (.cells #[.string tx, .int .i64 (at_ : Int)] PT)) (by omega) (hev.below ((Below.refl _ _).alloc (Nat.le_refl _) _))
  have hb0 : Below w.heap.size w (w.alloc (.cells #[.string tx, .int .i64 (at_ : Int)] PT)) := (Below.refl _ _).alloc (Nat.le_refl _) _
  have hP0 : Blk PT w.heap.size #[.string tx, .int .i64 (at_ : Int)] (w.alloc (.cells #[.string tx, .int .i64 (at_ : Int)] PT)) := Blk.made w
  have hT : takeL (tx.data.toList, at_) st = match allR tx.data.toList with
    | .error (_, e) => .error e
    | .ok l =>
      if fitsL shClass l then (if classOk l then .ok { st with cs := st.cs ++ [classOf l at_] } else .error 3)
      else if fitsL shHeader l then .ok { st with opn := some (wd l 0, false) }
      else if fitsL shMetas l then .ok { st with opn := some (wd l 0, true) }
      else .error 3 := rfl
  rw [hT]
  clear hT
  cases hx : allR tx.data.toList with
  | error y =>
    obtain ⟨p, n⟩ := y
    rw [hx] at hA
    have hn := (allR_err _ _ _ hx).1
    have hnb : (n != 0) = true := by simpa using hn
    clear hx hev
    go_enter Tryz.func18, Tryz.ntmps18
    go_wp2_with fail
    refine hA.mono ?_; rintro e w1 ⟨hb1, rfl⟩
    have hb1 := hb0.trans (hb1.mono hb0.size)
    go_wp2_with fail
    go_ret
    exact ⟨hb1.mono hB, .of hb1, rfl, hn⟩
  | ok l =>
    rw [hx] at hA
    obtain ⟨l', t', hl1, hl2, hl3⟩ := allR_last _ _ hx
    have hin := (allR_in _ _ hx).1
    have hsm := allR_small _ _ hx
    have hdl : tx.data.toList.length = tx.size := rfl
    rw [hdl] at hin
    have hne : l ≠ [] := by rw [hl1]; simp
    simp only []
    obtain ⟨Z, hZ⟩ : ∃ Z, (if fitsL shClass l then (if classOk l then .ok { st with cs := st.cs ++ [classOf l at_] } else .error 3)
      else if fitsL shHeader l then .ok { st with opn := some (wd l 0, false) }
      else if fitsL shMetas l then .ok { st with opn := some (wd l 0, true) }
      else .error 3 : Except Int Rst) = Z := ⟨_, rfl⟩
    rw [hZ]
    clear hx hev hl1 hl2 hl3
    have HSM := Lib.hid hsm
    have HR := Lib.hid hR
    clear hsm hR
    have HIN := Lib.hid hin
    clear hin
    go_enter Tryz.func18, Tryz.ntmps18
    go_wp2_with fail
    refine hA.mono ?_; rintro e w1 ⟨hb1, v, rfl, hown⟩
    obtain ⟨g, cap, rfl, hwg, hg, hcap, hcm, hrows⟩ := rows_of_own hown hne
    clear hown hA
    have hP := hP0.below hb1 hP0.lt
    have hb1 := hb0.trans (hb1.mono hb0.size)
    clear hP0 hb0
    go_wp2_with fail
    refine shapes_any.mono ?_; rintro e w2 ⟨hb2, a, b, c, rfl, ⟨ga, rfl, hga, ra⟩, ⟨gb, rfl, hgb, rb⟩, ⟨gc, rfl, hgc, rc⟩⟩
    have hrows := rows_below hrows hb2 hg
    have hP := hP.below hb2 hP.lt
    have hg := Nat.lt_of_lt_of_le hg hb2.size
    have hb2 := hb1.trans (hb2.mono hb1.size)
    clear hb1
    have fA := fun (v : World) (h : Below w2.heap.size w2 v) => fits_any (l := l) (g := g) (m := l.length) (cl := cap) (rows_below ra h hga) (rows_below hrows h hg) (Nat.lt_of_lt_of_le hga h.size) (Nat.lt_of_lt_of_le hg h.size) rfl rfl (by decide) (by have := HIN.out; omega) (Nat.le_refl _) hcap
    have fB := fun (v : World) (h : Below w2.heap.size w2 v) => fits_any (l := l) (g := g) (m := l.length) (cl := cap) (rows_below rb h hgb) (rows_below hrows h hg) (Nat.lt_of_lt_of_le hgb h.size) (Nat.lt_of_lt_of_le hg h.size) rfl rfl (by decide) (by have := HIN.out; omega) (Nat.le_refl _) hcap
    have fC := fun (v : World) (h : Below w2.heap.size w2 v) => fits_any (l := l) (g := g) (m := l.length) (cl := cap) (rows_below rc h hgc) (rows_below hrows h hg) (Nat.lt_of_lt_of_le hgc h.size) (Nat.lt_of_lt_of_le hg h.size) rfl rfl (by decide) (by have := HIN.out; omega) (Nat.le_refl _) hcap
    have FA := Lib.hid fA
    have FB := Lib.hid fB
    have FC := Lib.hid fC
    have HROWS := Lib.hid hrows
    obtain ⟨m, hm⟩ : ∃ m, l.length = m := ⟨_, rfl⟩
    rw [hm] at FA FB FC hcap ⊢
    have HM := Lib.hid hm
    clear fA fB fC ra rb rc hga hgb hgc hrows hm
    obtain ⟨qa, hqa⟩ : ∃ q, fitsL shClass l = q := ⟨_, rfl⟩
    obtain ⟨qb, hqb⟩ : ∃ q, fitsL shHeader l = q := ⟨_, rfl⟩
    obtain ⟨qc, hqc⟩ : ∃ q, fitsL shMetas l = q := ⟨_, rfl⟩
    rw [hqa] at FA
    rw [hqb] at FB
    rw [hqc] at FC
    have HQA := Lib.hid hqa
    have HQB := Lib.hid hqb
    have HQC := Lib.hid hqc
    rw [hqa, hqb, hqc] at hZ
    have HZ := Lib.hid hZ
    clear hqa hqb hqc hZ
    go_wp2_with fail
    refine (FA.out _ (Below.refl _ _)).mono ?_; rintro e w3 ⟨rfl, hb3⟩
    cases qa with
    | true =>
      have h6 : l.length = 6 := fits_length _ _ HQA.out
      have hm6 : m = 6 := by rw [← HM.out]; exact h6
      subst hm6
      have p1 := (hP.below hb3 hP.lt).c 1 _ rfl
      have hbw := hb2.trans (hb3.mono hb2.size)
      have hCl := class_any (cap := cap) at_ (HR.out.below hbw) (Nat.le_trans hB hbw.size) (rows_below HROWS.out hb3 hg) (Nat.lt_of_lt_of_le hg hb3.size) h6 hcap (fun t ht => Nat.le_trans (HSM.out t ht).2.2.2 (by decide)) hcs
      obtain ⟨qk, hqk⟩ : ∃ q, classOk l = q := ⟨_, rfl⟩
      rw [hqk] at hCl HZ
      have HCL := Lib.hid hCl
      clear hqk hCl h6 FB FC
      go_wp2_with fail
      refine HCL.out.mono ?_; rintro e w4 ⟨rfl, hb4, hk4, hR4⟩
      cases qk with
      | true =>
        have HR4 := Lib.hid hR4
        clear hR4
        go_wp2_with fail
        go_ret
        rw [← HZ.out]
        exact ⟨(hbw.mono hB).trans hb4, (KeepC.of hbw).trans hk4, rfl, HR4.out⟩
      | false =>
        clear hR4
        go_wp2_with fail
        go_ret
        rw [← HZ.out]
        exact ⟨(hbw.mono hB).trans hb4, (KeepC.of hbw).trans hk4, rfl, by decide⟩
    | false =>
      go_wp2_with fail
      refine (FB.out _ hb3).mono ?_; rintro e w4 ⟨rfl, hb4⟩
      have hb4 := hb3.trans (hb4.mono hb3.size)
      clear hb3
      cases qb with
      | true =>
        clear FA FB
        have hqc : qc = false := by
          cases qc with
          | false => rfl
          | true => exact absurd ((fits_length _ _ HQC.out).symm.trans (fits_length _ _ HQB.out)) (by decide)
        subst hqc
        have h3 : l.length = 3 := fits_length _ _ HQB.out
        have hm3 : m = 3 := by rw [← HM.out]; exact h3
        subst hm3
        obtain ⟨t0, ht0⟩ : ∃ t, l[0]? = some t := ⟨_, List.getElem?_eq_getElem (by omega)⟩
        have c1 := (rows_below HROWS.out hb4 hg 0 t0 ht0).2.1
        simp only [Nat.reduceMul, Nat.reduceAdd] at c1
        have hw0 : wd l 0 = t0.word := by unfold wd; rw [ht0]; rfl
        rw [hw0] at HZ
        obtain ⟨n0, hn0⟩ : ∃ b : ByteArray, (⟨t0.word.toArray⟩ : ByteArray) = b := ⟨_, rfl⟩
        rw [hn0] at c1
        have hbw := hb2.trans (hb4.mono hb2.size)
        have hR4 := HR.out.below hbw
        obtain ⟨hBR, cv, sv, ov, hRb⟩ := hR4.blk
        have hRlt := hRb.lt
        have rf := hRb.fz
        have r2 := hRb.c 2 _ rfl
        have hg4 := Nat.lt_of_lt_of_le hg hb4.size
        clear h3 hw0
        have HN0 : Hid (strV t0.word = .string n0) := Lib.hid (by rw [← hn0]; rfl)
        clear hn0 ht0
        have hRd : Blk _ _ _ w4.drew := hRb
        have c1d : w4.drew.cell? _ = _ := c1
        go_wp2_with fail
        go_region_with (go_at_call 38; refine Calls.mono (FC.out _ ?_) ?_; exact hb4.drew; rintro e w5 ⟨rfl, hb5⟩; have c5 := (hb5.cell (p := ⟨g, 1, none⟩) hg4).trans c1d; have rf5 : ∀ i, w5.frozen? ⟨R, i, none⟩ = false := (hRd.below hb5 hRlt).fz; have r5 := (hRd.below hb5 hRlt).c 2 _ rfl; have hR5 := (hRd.below hb5 hRlt).lt)
        all_goals
          go_wp2_with fail
          go_ret
          rw [← HZ.out]
          have hbX : Below w4.heap.size w4 (w5.alloc (.cells #[.string n0, .bool false, .string ⟨#[]⟩, .int .i64 0] SrT)) := ((Below.refl _ w4).drew.trans hb5).alloc (B := w4.heap.size) hb5.size _
          have hX := hR4.opened (c := t0.word) (m := false) hbX hb5.size (Nat.le_trans hB hbw.size) (by rw [HN0.out]; exact Blk.made w5)
          have hbF := ((hbw.mono hB).trans (hbX.mono (Nat.le_trans hB hbw.size))).setCell (p := ⟨R, 2, none⟩) hBR (.pointer (some ⟨w5.heap.size, 0, none⟩))
          have hkF := (KeepC.of (hbw.trans (hbX.mono hbw.size))).set_ ((hRb.below hbX hRlt)) 2 (.pointer (some ⟨w5.heap.size, 0, none⟩))
          rw [World.setCell_alloc_past _ _ _ _ hR5] at hX hbF hkF
          exact ⟨hbF, hkF, rfl, hX⟩
      | false =>
        go_wp2_with fail
        refine (FC.out _ hb4).mono ?_; rintro e w5 ⟨rfl, hb5⟩
        have hb5 := hb4.trans (hb5.mono hb4.size)
        clear hb4
        cases qc with
        | true =>
          clear FA FB
          have h4l : l.length = 4 := fits_length _ _ HQC.out
          have hm4 : m = 4 := by rw [← HM.out]; exact h4l
          subst hm4
          obtain ⟨t0, ht0⟩ : ∃ t, l[0]? = some t := ⟨_, List.getElem?_eq_getElem (by omega)⟩
          have c1 := (rows_below HROWS.out hb5 hg 0 t0 ht0).2.1
          simp only [Nat.reduceMul, Nat.reduceAdd] at c1
          have hw0 : wd l 0 = t0.word := by unfold wd; rw [ht0]; rfl
          rw [hw0] at HZ
          obtain ⟨n0, hn0⟩ : ∃ b : ByteArray, (⟨t0.word.toArray⟩ : ByteArray) = b := ⟨_, rfl⟩
          rw [hn0] at c1
          have hbw := hb2.trans (hb5.mono hb2.size)
          have hR4 := HR.out.below hbw
          obtain ⟨hBR, cv, sv, ov, hRb⟩ := hR4.blk
          have hRlt := hRb.lt
          have rf := hRb.fz
          have r2 := hRb.c 2 _ rfl
          have hg4 := Nat.lt_of_lt_of_le hg hb5.size
          clear h4l hw0
          have HN0 : Hid (strV t0.word = .string n0) := Lib.hid (by rw [← hn0]; rfl)
          clear hn0 ht0
          have hRd : Blk _ _ _ w5.drew := hRb
          have c1d : w5.drew.cell? _ = _ := c1
          go_wp2_with fail
          go_region_with (go_at_call 38; refine Calls.mono (FC.out _ ?_) ?_; exact hb5.drew; rintro e w6 ⟨rfl, hb6⟩; have c6 := (hb6.cell (p := ⟨g, 1, none⟩) hg4).trans c1d; have rf6 : ∀ i, w6.frozen? ⟨R, i, none⟩ = false := (hRd.below hb6 hRlt).fz; have r5 := (hRd.below hb6 hRlt).c 2 _ rfl; have hR5 := (hRd.below hb6 hRlt).lt)
          all_goals
            go_wp2_with fail
            go_ret
            rw [← HZ.out]
            have hbX : Below w5.heap.size w5 (w6.alloc (.cells #[.string n0, .bool true, .string ⟨#[]⟩, .int .i64 0] SrT)) := ((Below.refl _ w5).drew.trans hb6).alloc (B := w5.heap.size) hb6.size _
            have hX := hR4.opened (c := t0.word) (m := true) hbX hb6.size (Nat.le_trans hB hbw.size) (by rw [HN0.out]; exact Blk.made w6)
            have hbF := ((hbw.mono hB).trans (hbX.mono (Nat.le_trans hB hbw.size))).setCell (p := ⟨R, 2, none⟩) hBR (.pointer (some ⟨w6.heap.size, 0, none⟩))
            have hkF := (KeepC.of (hbw.trans (hbX.mono hbw.size))).set_ ((hRb.below hbX hRlt)) 2 (.pointer (some ⟨w6.heap.size, 0, none⟩))
            rw [World.setCell_alloc_past _ _ _ _ hR5] at hX hbF hkF
            exact ⟨hbF, hkF, rfl, hX⟩
        | false =>
          go_wp2_with fail
          go_ret
          rw [← HZ.out]
          exact ⟨(hb2.trans (hb5.mono hb2.size)).mono hB, .of (hb2.trans (hb5.mono hb2.size)), rfl, by decide⟩
end Ck
end Go.Proofs.YthdigbkcffihkaaGreatDoor
namespace Go.Proofs.YthdigbkcffihkaaGreatDoor
open Go.RowKit
namespace Ck
open Lx
variable {w : World}
/-- A unit's two slices. -/
def Units (B : Nat) (cv sv : Value) (cs : List Cls) (ss : List Src) (w : World) : Prop :=
  ∃ cl : List (Cls × Value), cl.map (·.1) = cs ∧ w.ownsRow B CT 4 cv cl.length (flatC cl) ∧ (∀ x ∈ cl, Strs B x.2 x.1.fields w) ∧ w.ownsRow B SrT 4 sv ss.length (flatS ss)
theorem Units.below {B : Nat} {cv sv : Value} {cs : List Cls} {ss : List Src} {w w' : World} (h : Units B cv sv cs ss w) (hb : Below w.heap.size w w') : Units B cv sv cs ss w' := by
  obtain ⟨cl, h1, h2, h3, h4⟩ := h
  exact ⟨cl, h1, own_below h2 hb, fun x hx => own_below (h3 x hx) hb, own_below h4 hb⟩
theorem Units.set_ {B T k : Nat} {cv sv : Value} {cs : List Cls} {ss : List Src} {w : World} {cells : Array Value} (h : Units B cv sv cs ss w) (hk : Blk T k cells w) (h1 : CT ≠ T) (h2 : SrT ≠ T) (h3 : ST ≠ T) (i : Nat) (u : Value) : Units B cv sv cs ss (w.setCell ⟨k, i, none⟩ u) := by
  obtain ⟨cl, k1, k2, k3, k4⟩ := h
  exact ⟨cl, k1, own_set k2 hk h1 i u, fun x hx => own_set (k3 x hx) hk h3 i u, own_set k4 hk h2 i u⟩
/-- What Read hands back. -/
def Readed (x : Except Err (List Cls × List Src)) (w : World) (e : Ending) (w' : World) : Prop :=
  Below w.heap.size w w' ∧ match x with
  | .error (p, n) => e = .returned (.tuple #[.agg #[.slice none 0 0, .slice none 0 0], .int .i64 (p : Int), .int .i64 n]) ∧ n ≠ 0
  | .ok (cs, ss) => ∃ cv sv, e = .returned (.tuple #[.agg #[cv, sv], .int .i64 0, .int .i64 0]) ∧ Units w.heap.size cv sv cs ss w'
theorem pieces_at {w : World} {B n c gg : Nat} {l : List Piece} (h : w.ownsRow B PT 2 (.slice (some ⟨gg, 0, none⟩) n c) l.length (flatP l)) (i : Nat) (p : Piece) (hb : l[i]? = some p) : w.cell? ⟨gg, i * 2, none⟩ = some (.string ⟨p.1.toArray⟩) ∧ w.cell? ⟨gg, i * 2 + 1, none⟩ = some (.int .i64 (p.2 : Int)) := by
  have hf : ∀ (l : List Piece) (i : Nat) (p : Piece), l[i]? = some p → ∀ j u, (cellsP p)[j]? = some u → (flatP l)[i * 2 + j]? = some u := by
    intro l
    induction l with
    | nil => intro i p h; simp at h
    | cons t l ih =>
      intro i p h j u hu
      have hj : j < (cellsP t).length := by
        have := (List.getElem?_eq_some_iff.1 hu).1
        exact this
      cases i with
      | zero =>
        simp at h; subst h
        unfold flatP; rw [List.flatMap_cons, Nat.zero_mul, Nat.zero_add, List.getElem?_append_left hj]; exact hu
      | succ i =>
        have ih := ih i p (by simpa using h) j u hu
        unfold flatP at ih ⊢
        have h4 : (cellsP t).length = 2 := rfl
        rw [List.flatMap_cons, List.getElem?_append_right (by rw [h4]; omega), h4, show (i + 1) * 2 + j - 2 = i * 2 + j by omega]
        exact ih
  have ha : ∀ k : Nat, (⟨gg, 0, none⟩ : Addr).add k = ⟨gg, k, none⟩ := fun k => by unfold Addr.add; split <;> simp_all
  have hh := fun j u hu => World.ownsRow.cells h (g := gg) rfl (i * 2 + j) u (hf l i p hb j u hu)
  simp only [ha] at hh
  exact ⟨hh 0 _ rfl, hh 1 _ rfl⟩
theorem Rdr.start {B : Nat} {w : World} (hB : B ≤ w.heap.size) : Rdr B w.heap.size ⟨[], [], none⟩ (w.alloc (.cells #[.slice none 0 0, .slice none 0 0, .pointer none] RdT)) :=
  ⟨_, _, _, [], hB, Blk.made w, rfl, World.ownsRow_nil _ _ _ _, fun x hx => (by cases hx), World.ownsRow_nil _ _ _ _, fun x hx => (by cases hx), rfl⟩
abbrev UT : Nat := 26
/-- All blocks but readers and rows of classes and of sources stay as they are. -/
structure KeepR (w w' : World) : Prop where
  size : w.heap.size ≤ w'.heap.size
  block : ∀ (k : Nat) (cs : Array Value) (T : TypeId) (fz : Nat × Nat), w.heap[k]? = some (Obj.cells cs T fz) → T ≠ RdT → T ≠ CT → T ≠ SrT → w'.heap[k]? = w.heap[k]?
theorem KeepR.of {w w' : World} (h : KeepC w w') : KeepR w w' := ⟨h.size, fun k cs T fz hk h1 h2 _ => h.block k cs T fz hk h1 h2⟩
theorem KeepR.refl (w : World) : KeepR w w := ⟨Nat.le_refl _, fun _ _ _ _ _ _ _ _ => rfl⟩
theorem KeepR.trans {a b c : World} (h : KeepR a b) (k : KeepR b c) : KeepR a c :=
  ⟨Nat.le_trans h.size k.size, fun i cs T fz hi h1 h2 h3 => by
    have e := h.block i cs T fz hi h1 h2 h3
    rw [← e]
    exact k.block i cs T fz (by rw [e]; exact hi) h1 h2 h3⟩
theorem KeepR.below {a b c : World} (h : KeepR a b) (k : Below b.heap.size b c) : KeepR a c := h.trans (.of (.of k))
theorem KeepR.set_ {a b : World} (h : KeepR a b) {R : Nat} {cs : Array Value} (hk : Blk RdT R cs b) (i : Nat) (u : Value) : KeepR a (b.setCell ⟨R, i, none⟩ u) :=
  h.trans (.of ((KeepC.of (Below.refl _ _)).set_ hk i u))
theorem KeepR.grown {a b c : World} (h : KeepR a b) {v : Value} {B size n : Nat} {xs : List Value} (hg : b.grownBy c v.ownBlock) (ho : b.ownsRow B SrT size v n xs) : KeepR a c :=
  h.trans ⟨hg.size, fun k cs T fz hk _ _ h2 => hg.block k (Array.getElem?_eq_some_iff.1 hk).1 (by
    rcases ho.2 with ⟨rfl, _⟩ | ⟨gg, cp, cur, rfl, _, hgg, _⟩
    · intro h; cases h
    · intro hh
      have hh : some k = some gg := hh
      cases hh
      rw [hgg] at hk
      cases hk
      exact h2 rfl)⟩
theorem KeepR.own {w w' : World} (h : KeepR w w') {base e size n : Nat} {v : Value} {xs : List Value} (ho : w.ownsRow base e size v n xs) (h1 : e ≠ RdT) (h2 : e ≠ CT) (h3 : e ≠ SrT) : w'.ownsRow base e size v n xs := by
  obtain ⟨k1, k2⟩ := ho
  refine ⟨k1, ?_⟩
  rcases k2 with hn | ⟨g, cap, cur, rfl, hbg, hg, rest⟩
  · exact .inl hn
  · exact .inr ⟨g, cap, cur, rfl, hbg, (h.block g _ _ _ hg h1 h2 h3).trans hg, rest⟩
theorem KeepR.blk {w w' : World} (h : KeepR w w') {T k : Nat} {cs : Array Value} (hk : Blk T k cs w) (h1 : T ≠ RdT) (h2 : T ≠ CT) (h3 : T ≠ SrT) : Blk T k cs w' := (h.block k _ _ _ hk h1 h2 h3).trans hk
set_option maxRecDepth 100000 in
set_option maxHeartbeats 800000 in
theorem read_big (s : ByteArray) (w : World) (hbig : 65536 < s.size) :
    Calls Tryz.prog 8 #[.string s] w (Readed (readR s.data.toList) w) := by
  have hr : readR s.data.toList = .error (0, 2) := by unfold readR; rw [if_pos (show 65536 < s.data.toList.length from hbig)]
  rw [hr]
  have hdec : decide ((65536 : Int) < (s.size : Int)) = true := decide_eq_true (by omega)
  clear hr
  go_enter Tryz.func8, Tryz.ntmps8
  go_wp2_with fail
  have e0 := (Blk.made (T := UT) (cs := #[.slice none 0 0, .slice none 0 0]) w).c 0 _ rfl
  have e1 := (Blk.made (T := UT) (cs := #[.slice none 0 0, .slice none 0 0]) w).c 1 _ rfl
  refine bodyPost_ret (v := .tuple #[.agg #[.slice none 0 0, .slice none 0 0], .int .i64 0, .int .i64 2]) (by simp [results, Tryz.results8, go_sem, e0, e1]) rfl ?_
  exact ⟨(Below.refl _ _).alloc (Nat.le_refl _) _, rfl, by decide⟩
set_option maxRecDepth 100000 in
set_option maxHeartbeats 3200000 in
theorem read_small (s : ByteArray) (w : World) (hbig : ¬ 65536 < s.size) (hev : ErrVar w) :
    Calls Tryz.prog 8 #[.string s] w (Readed (readR s.data.toList) w) := by
  have hdec : decide ((65536 : Int) < (s.size : Int)) = false := decide_eq_false (by omega)
  obtain ⟨E, hE⟩ : ∃ E, readR s.data.toList = E := ⟨_, rfl⟩
  rw [hE]
  unfold readR at hE
  rw [if_neg (show ¬ 65536 < s.data.toList.length from hbig)] at hE
  have hC := fun v : World => cut_any s v (by omega)
  obtain ⟨q1, q2, q3, q4⟩ := cut_le s.data.toList
  rw [show s.data.toList.length = s.size from rfl] at q1 q2 q3 q4 hE
  obtain ⟨Y, hY⟩ : ∃ Y, cutE s.data.toList 0 0 [] = Y := ⟨_, rfl⟩
  rw [hY] at hE hC q1 q2 q3 q4
  have HE := Lib.hid hE
  have HC := Lib.hid hC
  have HQ2 := Lib.hid q2
  clear hE hC hY q2
  obtain ⟨i0, hi, hz0, hz1, hz2⟩ := info_parts (show (Tryz.prog.info? SrT).map (fun i => (i.zero, i.size, i.bytes)) = some (some (.agg #[.string ⟨#[]⟩, .bool false, .string ⟨#[]⟩, .int .i64 0]), 4, 48) by kernel_rfl)
  have tsl : Tryz.prog.underlying 24 = some (.slice SrT) := by kernel_rfl
  go_enter Tryz.func8, Tryz.ntmps8
  go_wp2_with fail
  have hu0 := Blk.made (T := UT) (cs := #[.slice none 0 0, .slice none 0 0]) w
  have hb0 : Below w.heap.size w (w.alloc (.cells #[.slice none 0 0, .slice none 0 0] UT)) := (Below.refl _ _).alloc (Nat.le_refl _) _
  have hs0 : (w.alloc (.cells #[.slice none 0 0, .slice none 0 0] UT)).heap.size = w.heap.size + 1 := by simp
  obtain ⟨W0, hW0⟩ : ∃ W0, w.alloc (.cells #[.slice none 0 0, .slice none 0 0] UT) = W0 := ⟨_, rfl⟩
  rw [hW0] at hu0 hb0 hs0
  have hr1 := Rdr.start (B := w.heap.size + 1) (w := W0) (by omega)
  have hu1 := hu0.alloc (.cells #[.slice none 0 0, .slice none 0 0, .pointer none] RdT)
  have hb1 := hb0.alloc (B := w.heap.size) (by omega) (.cells #[.slice none 0 0, .slice none 0 0, .pointer none] RdT)
  have hs1 : (W0.alloc (.cells #[.slice none 0 0, .slice none 0 0, .pointer none] RdT)).heap.size = w.heap.size + 2 := by simp [hs0]
  rw [hs0] at hr1
  rw [hW0]
  obtain ⟨W1, hW1⟩ : ∃ W1, W0.alloc (.cells #[.slice none 0 0, .slice none 0 0, .pointer none] RdT) = W1 := ⟨_, rfl⟩
  rw [hW1] at hr1 hu1 hb1 hs1 ⊢
  clear hW1 hW0 hu0 hb0 hs0
  refine (HC.out _).mono ?_; rintro e w2 ⟨hb2, pv, rfl, hown⟩
  obtain ⟨po, pc, rfl, hpo⟩ := own_slice hown
  obtain ⟨np, hnp⟩ : ∃ np, Y.1.length = np := ⟨_, rfl⟩
  rw [hnp] at hpo q1 ⊢
  have HNP := Lib.hid hnp
  clear hnp
  have hu2 := hu1.below hb2 hu1.lt
  have hr2 := hr1.below hb2
  have hbw := hb1.trans (hb2.mono (by omega))
  have hs2 := hb2.size
  rw [hs1] at hs2
  have HOWN := Lib.hid hown
  clear hown hu1 hr1 hb1
  unfold pieceV
  obtain ⟨rt, hrt⟩ : ∃ rt : ByteArray, (⟨(restL Y).1.toArray⟩ : ByteArray) = rt := ⟨_, rfl⟩
  rw [hrt]
  have drt : rt.data.toList = (restL Y).1 := by rw [← hrt]
  have HRT := Lib.hid drt
  clear hrt drt
  obtain ⟨F, hF⟩ : ∃ F, readP Y.1 ⟨[], [], none⟩ = F := ⟨_, rfl⟩
  have hF0 : readP (Y.1.drop 0) ⟨[], [], none⟩ = F := hF
  have HF0 := Lib.hid hF0
  rw [hF] at HE
  clear hF hF0
  go_wp2_with fail
  have hu3 := hu2.alloc (.cells #[.string rt, .int .i64 ((restL Y).2 : Int)] PT)
  have hp3 := Blk.made (T := PT) (cs := #[.string rt, .int .i64 ((restL Y).2 : Int)]) w2
  have hr3 := hr2.below (w' := w2.alloc (.cells #[.string rt, .int .i64 ((restL Y).2 : Int)] PT)) ((Below.refl _ _).alloc (Nat.le_refl _) _)
  have hb3 := hbw.alloc (B := w.heap.size) (by omega) (.cells #[.string rt, .int .i64 ((restL Y).2 : Int)] PT)
  have hs3 : (w2.alloc (.cells #[.string rt, .int .i64 ((restL Y).2 : Int)] PT)).heap.size = w2.heap.size + 1 := by simp
  have hown3 := HOWN.out.alloc (.cells #[.string rt, .int .i64 ((restL Y).2 : Int)] PT)
  have HOWN3 := Lib.hid hown3
  clear hown3
  obtain ⟨W3, hW3⟩ : ∃ W3, w2.alloc (.cells #[.string rt, .int .i64 ((restL Y).2 : Int)] PT) = W3 := ⟨_, rfl⟩
  obtain ⟨RB, hRB⟩ : ∃ RB, w2.heap.size = RB := ⟨_, rfl⟩
  rw [hW3] at hu3 hp3 hr3 hb3 hs3 HOWN3 ⊢
  rw [hRB] at hp3 hs3 hs2 hpo ⊢
  clear hW3 hRB hu2 hr2 hbw HOWN hb2
  have HU3 := Lib.hid hu3
  have HP3 := Lib.hid hp3
  have HB3 := Lib.hid hb3
  have hs3' : w.heap.size + 1 ≤ W3.heap.size := by omega
  clear hu3 hp3 hb3
  go_loopw [22] (fun y wr => ∃ (k : Nat) (st : Rst), y = .int .i64 (k : Int) ∧ k ≤ np ∧ Hid (readP (Y.1.drop k) st = F) ∧ Mild k st ∧ Hid (Rdr (w.heap.size + 1) (w.heap.size + 1) st wr) ∧ Hid (KeepR W3 wr) ∧ Below (w.heap.size + 1) W3 wr) (fun y _ => np - (intOf y).toNat)
  case atStart => exact ⟨0, _, rfl, Nat.zero_le _, HF0, (show Mild 0 ⟨[], [], none⟩ from Nat.le_refl _), Lib.hid hr3, Lib.hid (KeepR.refl _), Below.refl _ _⟩
  case round =>
    obtain ⟨k, st, rfl, hk, hrd, hml, hRr, hkr, hbr⟩ := hrel
    by_cases hkn : k < np
    · have hdec2 : decide ((k : Int) < (np : Int)) = true := by simpa using hkn
      have hkw : IntKind.i64.wrap ((k : Int) + 1) = (k : Int) + 1 := IntWalk.i64_in _ (by omega)
      obtain ⟨gp, rfl, hgp1, hgp2, hgp3, hgp4⟩ := hpo (by omega)
      obtain ⟨x, hx⟩ : ∃ x, Y.1[k]? = some x := ⟨_, List.getElem?_eq_getElem (by rw [HNP.out]; exact hkn)⟩
      have hxm := HQ2.out x (List.mem_of_getElem? hx)
      have hst : readP (Y.1.drop k) st = match stepL x st with
        | .error e => .error (x.2, e)
        | .ok st' => readP (Y.1.drop (k + 1)) st' := by
        obtain ⟨h1, h2⟩ := List.getElem?_eq_some_iff.1 hx
        rw [List.drop_eq_getElem_cons h1, h2]
        rfl
      rw [hrd.out] at hst
      have hst := hst.symm
      have HST := Lib.hid hst
      clear hst
      obtain ⟨tx, htx⟩ : ∃ tx : ByteArray, (⟨x.1.toArray⟩ : ByteArray) = tx := ⟨_, rfl⟩
      have dtx : tx.data.toList = x.1 := by rw [← htx]
      have hownr := hkr.out.own HOWN3.out (by decide) (by decide) (by decide)
      obtain ⟨r0, r1⟩ := pieces_at (l := Y.1) (n := np) (c := pc) (gg := gp) (by rw [HNP.out] at hownr ⊢; exact hownr) k x hx
      rw [htx] at r0
      clear hownr
      have hgr : gp < wr.heap.size := by have := hkr.out.size; omega
      obtain ⟨hBR, cv, sv, ov, hRb⟩ := hRr.out.blk
      by_cases hem : x.1 = []
      · have he : (tx.toList == []) = true := by rw [ByteArray.toList_eq, dtx, hem]; rfl
        have hRlt := hRb.lt
        have rf := hRb.fz
        have r2 := hRb.c 2 _ rfl
        have hsl : stepL x st = .ok { st with opn := none } := by unfold stepL; rw [if_pos hem]
        have hst' : readP (Y.1.drop (k + 1)) { st with opn := none } = F := by rw [← HST.out, hsl]
        have HST' := Lib.hid hst'
        have HML := Lib.hid (stepL_mild hsl hml)
        have hbX : Below wr.heap.size wr (wr.alloc (.cells #[.string tx, .int .i64 (x.2 : Int)] PT)) := (Below.refl _ _).alloc (Nat.le_refl _) _
        have hRX := (hRr.out.below hbX).closed
        have hkX := (hkr.out.below hbX).set_ (hRb.below hbX hRlt) 2 (.pointer none)
        have hbY := (hbr.alloc (B := w.heap.size + 1) (by have := hbr.size; omega) (.cells #[.string tx, .int .i64 (x.2 : Int)] PT)).setCell (p := ⟨w.heap.size + 1, 2, none⟩) (Nat.le_refl _) (.pointer none)
        rw [World.setCell_alloc_past _ _ _ _ hRlt] at hRX hkX hbY
        have HRX := Lib.hid hRX
        have HKX := Lib.hid hkX
        have HBY := Lib.hid hbY
        clear hRX hkX hbY hbX hst' hsl
        go_wp2_with fail
        exact ⟨⟨k + 1, _, vint (by omega), by omega, HST', HML.out, HRX, HKX, HBY.out⟩, by simp only [intOf]; omega⟩
      · have he : (tx.toList == []) = false := by rw [beq_eq_false_iff_ne, ByteArray.toList_eq, dtx]; exact hem
        have hbX : Below wr.heap.size wr (wr.alloc (.cells #[.string tx, .int .i64 (x.2 : Int)] PT)) := (Below.refl _ _).alloc (Nat.le_refl _) _
        have hszX : (wr.alloc (.cells #[.string tx, .int .i64 (x.2 : Int)] PT)).heap.size = wr.heap.size + 1 := by simp
        have hPX := Blk.made (T := PT) (cs := #[.string tx, .int .i64 (x.2 : Int)]) wr
        have hRX := hRr.out.below hbX
        have hkX := hkr.out.below hbX
        have hwr := hbr.size
        have hbY := hbr.alloc (B := w.heap.size + 1) (by omega) (.cells #[.string tx, .int .i64 (x.2 : Int)] PT)
        have r2 := hRb.c 2 _ rfl
        have hRlt := hRb.lt
        cases ho : st.opn with
        | none =>
          have hov : ov = .pointer none := by
            obtain ⟨cv', sv', ov', cl, _, hRb', _, _, _, _, _, hop⟩ := hRr.out
            rw [ho] at hop
            have e1 := hRb'.c 2 _ rfl
            rw [r2] at e1
            have e1 : some ov = some ov' := e1
            cases e1
            exact hop
          subst hov
          obtain ⟨W4, hW4⟩ : ∃ W4, wr.alloc (.cells #[.string tx, .int .i64 (x.2 : Int)] PT) = W4 := ⟨_, rfl⟩
          have hT := take_any tx x.2 hRX (by rw [hszX]; omega) (by show tx.data.toList.length ≤ _; rw [dtx]; omega) (by unfold Mild at hml; omega) (hev.below (((HB3.out.trans (hbr.mono (by omega))).trans (hbX.mono (by have := HB3.out.size; omega)))))
          rw [show takeL (tx.data.toList, x.2) st = stepL x st by rw [dtx]; unfold stepL; rw [if_neg hem, ho]] at hT
          rw [hW4] at hT hRX hkX hbY hPX hszX
          have HT := Lib.hid hT
          have HRX := Lib.hid hRX
          have HKX := Lib.hid hkX
          have HBY := Lib.hid hbY
          have HPX := Lib.hid hPX
          have HW4 := Lib.hid hW4
          clear hT hRX hkX hbY hPX hbX dtx htx hW4
          go_wp2_with fail
          rw [HW4.out]
          clear HW4
          refine HT.out.mono ?_; rintro e w5 ⟨hb5, hk5, hm5⟩
          have hkF := HKX.out.trans (.of hk5)
          have hbF := HBY.out.trans hb5
          cases hs5 : stepL x st with
          | error n =>
            rw [hs5] at hm5
            obtain ⟨rfl, hn⟩ := hm5
            have hnb : (n != 0) = true := by simpa using hn
            have hE := HE.out
            rw [← HST.out, hs5] at hE
            simp only [] at hE
            have p1 := (hk5.blk HPX.out (by decide) (by decide)).c 1 _ rfl
            have hu := hkF.blk HU3.out (by decide) (by decide) (by decide)
            have u0 := hu.c 0 _ rfl
            have u1 := hu.c 1 _ rfl
            have uf := hu.fz
            have HBE := Lib.hid (HB3.out.trans (hbF.mono (by omega : w.heap.size ≤ w.heap.size + 1)))
            clear hs5 hkF hbF hb5 hk5
            go_wp2_with fail
            go_region
            all_goals
              go_wp2_with fail
              have hu2 := (hu.set_ 0 (.slice none 0 0) _ rfl).set_ 1 (.slice none 0 0) _ rfl
              have HBE2 := Lib.hid ((HBE.out.setCell (p := ⟨w.heap.size, 0, none⟩) (Nat.le_refl _) (.slice none 0 0)).setCell (p := ⟨w.heap.size, 1, none⟩) (Nat.le_refl _) (.slice none 0 0)).drew
              obtain ⟨V, hV⟩ : ∃ V, ((w5.setCell ⟨w.heap.size, 0, none⟩ (.slice none 0 0)).setCell ⟨w.heap.size, 1, none⟩ (.slice none 0 0)).drew = V := ⟨_, rfl⟩
              replace hu2 : Blk UT w.heap.size _ ((w5.setCell ⟨w.heap.size, 0, none⟩ (.slice none 0 0)).setCell ⟨w.heap.size, 1, none⟩ (.slice none 0 0)).drew := hu2
              rw [hV] at hu2 HBE2 ⊢
              clear hV
              have e0 := hu2.c 0 _ rfl
              have e1 := hu2.c 1 _ rfl
              refine bodyPost_ret (v := .tuple #[.agg #[.slice none 0 0, .slice none 0 0], .int .i64 (x.2 : Int), .int .i64 n]) (by simp [results, Tryz.results8, go_sem, e0, e1]) rfl ?_
              rw [← hE]
              exact ⟨HBE2.out, rfl, hn⟩
          | ok st' =>
            rw [hs5] at hm5
            obtain ⟨rfl, hR5⟩ := hm5
            have hst' : readP (Y.1.drop (k + 1)) st' = F := by rw [← HST.out, hs5]
            have HST' := Lib.hid hst'
            have HML := Lib.hid (stepL_mild hs5 hml)
            have HR5 := Lib.hid hR5
            have HKF := Lib.hid hkF
            have HBF := Lib.hid hbF
            clear hs5 hkF hbF hb5 hk5 hR5 hst'
            go_wp2_with fail
            exact ⟨⟨k + 1, _, vint (by omega), by omega, HST', HML.out, HR5, HKF, HBF.out⟩, by simp only [intOf]; omega⟩
        | some cm =>
          obtain ⟨c, m⟩ := cm
          clear r2 hRb
          obtain ⟨cv, sv, ov, cl, _, hRb, hcl, hownC, hfl, hownS, htxs, hop⟩ := hRr.out
          rw [ho] at hop
          obtain ⟨kk, rfl, hkk1, hkk2, hkk3⟩ := hop
          have r2 := hRb.c 2 _ rfl
          have hRb := hRb.below hbX hRb.lt
          have hownC := own_below hownC hbX
          have hownS := own_below hownS hbX
          have hfl : ∀ y ∈ cl, Strs (w.heap.size + 1) y.2 y.1.fields (wr.alloc (.cells #[.string tx, .int .i64 (x.2 : Int)] PT)) := fun y hy => own_below (hfl y hy) hbX
          have hkk2 := hkk2.below hbX hkk2.lt
          have hsl : stepL x st = .ok { st with ss := st.ss ++ [⟨c, m, x.1, x.2⟩] } := by unfold stepL; rw [if_neg hem, ho]
          have hst' : readP (Y.1.drop (k + 1)) { st with ss := st.ss ++ [⟨c, m, x.1, x.2⟩] } = F := by rw [← HST.out, hsl]
          have HST' := Lib.hid hst'
          have HML := Lib.hid (stepL_mild hsl hml)
          have hssl : st.ss.length ≤ 1099511627 := by unfold Mild at hml; omega
          obtain ⟨nc, hnc⟩ : ∃ b : ByteArray, (⟨c.toArray⟩ : ByteArray) = b := ⟨_, rfl⟩
          have HNC : Hid (strV c = .string nc) := Lib.hid (by rw [← hnc]; rfl)
          have HTX : Hid (strV x.1 = .string tx) := Lib.hid (by rw [← htx]; rfl)
          have hkk0 : Blk SrT kk #[.string nc, .bool m, .string ⟨#[]⟩, .int .i64 0] (wr.alloc (.cells #[.string tx, .int .i64 (x.2 : Int)] PT)) := by rw [← HNC.out]; exact hkk2
          obtain ⟨W4, hW4⟩ : ∃ W4, wr.alloc (.cells #[.string tx, .int .i64 (x.2 : Int)] PT) = W4 := ⟨_, rfl⟩
          rw [hW4] at hRb hownC hfl hownS hkk0 hkk2 hkX hbY hPX hszX
          have HW4 := Lib.hid hW4
          have HKX := Lib.hid hkX
          have HBY := Lib.hid hbY
          have HFL := Lib.hid hfl
          have HOWNC := Lib.hid hownC
          have HOWNS := Lib.hid hownS
          have HTXS := Lib.hid htxs
          have HCL := Lib.hid hcl
          have HKK3 := Lib.hid hkk3
          have HKK2 := Lib.hid hkk2
          have hkl := hkk2.lt
          have hszY := hbY.size
          clear hkX hbY hfl hownC hownS htxs hcl hkk3 hbX dtx htx hW4 hnc hsl hst' hkk2
          go_wp2_with fail
          rw [HW4.out]
          clear HW4 r2
          have p0 := hPX.c 0 _ rfl
          have p1 := hPX.c 1 _ rfl
          have k0 := hkk0.c 0 _ rfl
          have k1 := hkk0.c 1 _ rfl
          have r1 := hRb.c 1 _ rfl
          have r2 := hRb.c 2 _ rfl
          have rf := hRb.fz
          have hplt := hPX.lt
          have hRlt4 := hRb.lt
          have hOC := HOWNS.out.alloc (Obj.cells #[.string nc, .bool m, .string tx, .int .i64 (x.2 : Int)] SrT)
          have hRbX := hRb.alloc (Obj.cells #[.string nc, .bool m, .string tx, .int .i64 (x.2 : Int)] SrT)
          have hneX := cells4 W4 SrT (.string nc) (.bool m) (.string tx) (.int .i64 (x.2 : Int))
          have hszX4 : w.heap.size + 1 ≤ (W4.alloc (Obj.cells #[.string nc, .bool m, .string tx, .int .i64 (x.2 : Int)] SrT)).drew.heap.size := by show w.heap.size + 1 ≤ (W4.alloc _).heap.size; simp; omega
          have hXr : Below W4.heap.size W4 (W4.alloc (Obj.cells #[.string nc, .bool m, .string tx, .int .i64 (x.2 : Int)] SrT)).drew := ((Below.refl _ W4).alloc (Nat.le_refl _) _).drew
          replace hOC : (W4.alloc (Obj.cells #[.string nc, .bool m, .string tx, .int .i64 (x.2 : Int)] SrT)).drew.ownsRow _ _ _ _ _ _ := hOC
          replace hRbX : Blk _ _ _ (W4.alloc (Obj.cells #[.string nc, .bool m, .string tx, .int .i64 (x.2 : Int)] SrT)).drew := hRbX
          replace hneX : ∀ j u, [Value.string nc, .bool m, .string tx, .int .i64 (x.2 : Int)][j]? = some u → (W4.alloc (Obj.cells #[.string nc, .bool m, .string tx, .int .i64 (x.2 : Int)] SrT)).drew.cell? ((⟨W4.heap.size, 0, none⟩ : Addr).add j) = some u := hneX
          have HOC := Lib.hid hOC
          have HNEW := Lib.hid hneX
          have HRB := Lib.hid hRbX
          have HB3' := Lib.hid hszX4
          have HXR := Lib.hid hXr
          have HONE : Hid (∀ u ∈ [Value.string nc, .bool m, .string tx, .int .i64 (x.2 : Int)], u.oneCell' = true) := Lib.hid (by intro u hu; simp at hu; rcases hu with rfl | rfl | rfl | rfl <;> rfl)
          have HB1 : Hid (st.ss.length + 1 ≤ maxLen) := Lib.hid (by unfold maxLen; omega)
          have HB2 : Hid ((st.ss.length + 1) * 48 ≤ 140737488355328) := Lib.hid (by omega)
          clear hOC hRbX hneX hszX4 hXr
          have hne1 : kk ≠ w.heap.size + 1 := by
            rintro rfl
            have e1 := HKK2.out
            unfold Blk at e1 hRb
            rw [hRb] at e1
            cases e1
          have hne2 : wr.heap.size ≠ w.heap.size + 1 := by omega
          have hne1' := hne1.symm
          have hne2' := hne2.symm
          have HPB := Lib.hid hPX
          have HKK0 := Lib.hid hkk0
          clear hPX hkk0 hRb
          refine wp_region_noPanic ?_
          refine wp_region_held_drew (S := (fun w' => w'.cell? ⟨w.heap.size + 1, 2, none⟩ = some (.pointer (some ⟨kk, 0, none⟩)) ∧ w'.cell? ⟨kk, 0, none⟩ = some (.string nc) ∧ w'.cell? ⟨kk, 1, none⟩ = some (.bool m) ∧ w'.cell? ⟨wr.heap.size, 0, none⟩ = some (.string tx) ∧ w'.cell? ⟨wr.heap.size, 1, none⟩ = some (.int .i64 (x.2 : Int)))) (by kernel_rfl) ?_ (fun hHeld => ?_)
          · try dsimp only
            go_keep
          refine wpAnyH_take (i := 0) (v := ?_) rfl (by kernel_rfl) (by kernel_rfl) (by kernel_rfl) (fun _ _ _ h => h) (Or.inl ⟨by rfl, ?_⟩) hHeld ?_
          rotate_left
          · intro w hSw
            (try dsimp only at hSw)
            go_simp
            try with_reducible rfl
          try simp only [Act.put, List.setIfInBounds_toArray]
          refine wpAnyH_take (i := 1) (v := ?_) rfl (by kernel_rfl) (by kernel_rfl) (by kernel_rfl) (fun _ _ _ h => h) (Or.inl ⟨by rfl, ?_⟩) hHeld ?_
          rotate_left
          · intro w hSw
            (try dsimp only at hSw)
            go_simp
            try with_reducible rfl
          try simp only [Act.put]
          refine wpAnyH_take (i := 3) (v := ?_) rfl (by kernel_rfl) (by kernel_rfl) (by kernel_rfl) (fun _ _ _ h => h) (Or.inl ⟨by rfl, ?_⟩) hHeld ?_
          rotate_left
          · intro w hSw
            (try dsimp only at hSw)
            go_simp
            try with_reducible rfl
          try simp only [Act.put]
          refine wpAnyH_take (i := 4) (v := ?_) rfl (by kernel_rfl) (by kernel_rfl) (by kernel_rfl) (fun _ _ _ h => h) (Or.inl ⟨by rfl, ?_⟩) hHeld ?_
          rotate_left
          · intro w hSw
            (try dsimp only at hSw)
            go_simp
            try with_reducible rfl
          try simp only [Act.put]
          refine wpAnyH_take (i := 5) (v := ?_) rfl (by kernel_rfl) (by kernel_rfl) (by kernel_rfl) (fun _ _ _ h => h) (Or.inl ⟨by rfl, ?_⟩) hHeld ?_
          rotate_left
          · intro w hSw
            (try dsimp only at hSw)
            go_simp
            try with_reducible rfl
          try simp only [Act.put]
          refine wpAnyH_take (i := 6) (v := ?_) rfl (by kernel_rfl) (by kernel_rfl) (by kernel_rfl) (fun _ _ _ h => h) (Or.inl ⟨by rfl, ?_⟩) hHeld ?_
          rotate_left
          · intro w hSw
            (try dsimp only at hSw)
            go_simp
            try with_reducible rfl
          try simp only [Act.put]
          refine wpAnyH_take (i := 7) (v := ?_) rfl (by kernel_rfl) (by kernel_rfl) (by kernel_rfl) (fun _ _ _ h => h) (Or.inl ⟨by rfl, ?_⟩) hHeld ?_
          rotate_left
          · intro w hSw
            (try dsimp only at hSw)
            go_simp
            try with_reducible rfl
          try simp only [Act.put]
          refine wpAnyH_take (i := 8) (v := ?_) rfl (by kernel_rfl) (by kernel_rfl) (by kernel_rfl) (fun _ _ _ h => h) (Or.inl ⟨by rfl, ?_⟩) hHeld ?_
          rotate_left
          · intro w hSw
            (try dsimp only at hSw)
            go_simp
            try with_reducible rfl
          try simp only [Act.put]
          refine wpAnyH_take (i := 9) (v := ?_) rfl (by kernel_rfl) (by kernel_rfl) (by kernel_rfl) (fun _ _ _ h => h) (Or.inl ⟨by rfl, ?_⟩) hHeld ?_
          rotate_left
          · intro w hSw
            (try dsimp only at hSw)
            go_simp
            try with_reducible rfl
          try simp only [Act.put]
          refine wpAnyH_take (i := 10) (v := ?_) rfl (by kernel_rfl) (by kernel_rfl) (by kernel_rfl) (fun _ _ _ h => h) (Or.inl ⟨by rfl, ?_⟩) hHeld ?_
          rotate_left
          · intro w hSw
            (try dsimp only at hSw)
            go_simp
            try with_reducible rfl
          try simp only [Act.put]
          refine wpAnyH_take (i := 11) (v := ?_) rfl (by kernel_rfl) (by kernel_rfl) (by kernel_rfl) (fun _ _ _ h => h) (Or.inl ⟨by rfl, ?_⟩) hHeld ?_
          rotate_left
          · intro w hSw
            (try dsimp only at hSw)
            go_simp
            try with_reducible rfl
          try simp only [Act.put]
          refine wpAnyH_take (i := 12) (v := ?_) rfl (by kernel_rfl) (by kernel_rfl) (by kernel_rfl) (fun _ _ _ h => h) (Or.inl ⟨by rfl, ?_⟩) hHeld ?_
          rotate_left
          · intro w hSw
            (try dsimp only at hSw)
            go_simp
            try with_reducible rfl
          try simp only [Act.put]
          refine wpAnyH_take (i := 13) (v := ?_) rfl (by kernel_rfl) (by kernel_rfl) (by kernel_rfl) (fun _ _ _ h => h) (Or.inl ⟨by rfl, ?_⟩) hHeld ?_
          rotate_left
          · intro w hSw
            (try dsimp only at hSw)
            go_simp
            try with_reducible rfl
          try simp only [Act.put]
          refine wpAnyH_take (i := 14) (v := ?_) rfl (by kernel_rfl) (by kernel_rfl) (by kernel_rfl) (fun _ _ _ h => h) (Or.inl ⟨by rfl, ?_⟩) hHeld ?_
          rotate_left
          · intro w hSw
            (try dsimp only at hSw)
            go_simp
            try with_reducible rfl
          try simp only [Act.put]
          refine wpAnyH_take (i := 15) (v := ?_) rfl (by kernel_rfl) (by kernel_rfl) (by kernel_rfl) (fun _ _ _ h => h) (Or.inl ⟨by rfl, ?_⟩) hHeld ?_
          rotate_left
          · intro w hSw
            (try dsimp only at hSw)
            go_simp
            try with_reducible rfl
          try simp only [Act.put]
          refine wpAnyH_take (i := 16) (v := ?_) rfl (by kernel_rfl) (by kernel_rfl) (by kernel_rfl) (fun _ _ _ h => h) (Or.inl ⟨by rfl, ?_⟩) hHeld ?_
          rotate_left
          · intro w hSw
            (try dsimp only at hSw)
            go_simp
            try with_reducible rfl
          try simp only [Act.put]
          refine wpAnyH_take (i := 17) (v := ?_) rfl (by kernel_rfl) (by kernel_rfl) (by kernel_rfl) (fun _ _ _ h => h) (Or.inl ⟨by rfl, ?_⟩) hHeld ?_
          rotate_left
          · intro w hSw
            (try dsimp only at hSw)
            go_simp
            try with_reducible rfl
          try simp only [Act.put]
          refine wpAnyH_ready (rs := [2, 18]) (by kernel_rfl) (by simp) ?_
          refine AllReadyH.cons rfl (fun K hK => ?_) (AllReadyH.cons rfl (fun K hK => ?_) AllReadyH.nil)
          · go_simp
            refine hK.out _ _ ?_ (fun hHeld1 => ?_)
            · try dsimp only
              go_keep
            clear hK K
            try simp only [Act.put, List.setIfInBounds_toArray, List.set_cons_zero, List.set_cons_succ]
            refine wpAnyH_ready (rs := [18]) (by kernel_rfl) (by simp) ?_
            refine AllReadyH.cons rfl (fun K hK => ?_) AllReadyH.nil
            go_simp
            refine hK.out _ _ ?_ (fun hHeld2 => ?_)
            · try dsimp only
              go_keep
            clear hK K
            try simp only [Act.put, List.setIfInBounds_toArray, List.set_cons_zero, List.set_cons_succ]
            refine wpAnyH_ready (rs := [19]) (by kernel_rfl) (by simp) ?_
            refine AllReadyH.cons rfl (fun K hK => ?_) AllReadyH.nil
            (refine step_append_own rfl (.tmp 45) (.tmp 61) 24 rfl (w.heap.size + 1) SrT i0 (.agg #[.string ⟨#[]⟩, .bool false, .string ⟨#[]⟩, .int .i64 0]) 4 48 tsl hi hz0 hz1 hz2 rfl (by decide) sv st.ss.length (flatS st.ss) (by simp [Act.eval]) HOC.out ⟨W4.heap.size, 0, none⟩ 1 1 [.string nc, .bool m, .string tx, .int .i64 (x.2 : Int)] (by simp [Act.eval]) rfl HNEW.out HONE.out HB1.out HB2.out HB3'.out ?_; intro v' w' hown' hgrow; have hRb' := blk_grown HRB.out hgrow HOC.out (by decide); have hP' := blk_grown (HPB.out.below HXR.out HPB.out.lt) hgrow HOC.out (by decide); have hK' := (hgrow.block kk (Nat.lt_of_lt_of_le hkl HXR.out.size) (fun h => HKK3.out h.symm)).trans (HKK0.out.below HXR.out hkl); replace hK' : Blk SrT kk _ w' := hK'; obtain ⟨g', c', rfl⟩ := own_form hown' (by omega); have r0' := hRb'.c 1 _ rfl; have rf' := hRb'.fz)
            refine hK.out _ _ ?_ (fun hHeld3 => ?_)
            · try dsimp only
              exact ⟨hRb'.c 2 _ rfl, hK'.c 0 _ rfl, hK'.c 1 _ rfl, hP'.c 0 _ rfl, hP'.c 1 _ rfl⟩
            clear hK K
            try simp only [Act.put, List.setIfInBounds_toArray]
            refine wpAnyH_take (i := 20) (v := ?_) rfl (by kernel_rfl) (by kernel_rfl) (by kernel_rfl) (fun _ _ _ h => h) (Or.inl ⟨by rfl, ?_⟩) hHeld3 ?_
            rotate_left
            · intro w hSw
              (try dsimp only at hSw)
              go_simp
              try with_reducible rfl
            try simp only [Act.put]
            refine wpAnyH_take (i := 21) (v := ?_) rfl (by kernel_rfl) (by kernel_rfl) (by kernel_rfl) (fun _ _ _ h => h) (Or.inl ⟨by rfl, ?_⟩) hHeld3 ?_
            rotate_left
            · intro w hSw
              (try dsimp only at hSw)
              go_simp
              try with_reducible rfl
            try simp only [Act.put]
            refine wpAnyH_ready (rs := [22]) (by kernel_rfl) (by simp) ?_
            refine AllReadyH.cons rfl (fun K hK => ?_) AllReadyH.nil
            go_simp
            refine hK.out _ _ ?_ (fun hHeld4 => ?_)
            · try dsimp only
              exact ⟨(hRb'.set_ 1 _ _ rfl).c 2 _ rfl, (hK'.far (p := ⟨w.heap.size + 1, 1, none⟩) hne1 _).c 0 _ rfl, (hK'.far (p := ⟨w.heap.size + 1, 1, none⟩) hne1 _).c 1 _ rfl, (hP'.far (p := ⟨w.heap.size + 1, 1, none⟩) hne2 _).c 0 _ rfl, (hP'.far (p := ⟨w.heap.size + 1, 1, none⟩) hne2 _).c 1 _ rfl⟩
            clear hK K
            try simp only [Act.put, List.setIfInBounds_toArray, List.set_cons_zero, List.set_cons_succ]
            refine wpAnyH_done (by kernel_rfl) ?_ _
            simp only [NoPanic]
            have hXw : Below (w.heap.size + 1) W3 (W4.alloc (Obj.cells #[.string nc, .bool m, .string tx, .int .i64 (x.2 : Int)] SrT)).drew := HBY.out.trans (HXR.out.mono (by omega))
            have hBF := (hXw.grown hgrow (by have := hXw.size; omega) (fun k hk => (HOC.out.lt k hk).1)).setCell (p := ⟨w.heap.size + 1, 1, none⟩) (Nat.le_refl _) (.slice (some ⟨g', 0, none⟩) (st.ss.length + 1) c')
            have hKF := ((HKX.out.below HXR.out).grown hgrow HOC.out).set_ hRb' 1 (.slice (some ⟨g', 0, none⟩) (st.ss.length + 1) c')
            have hne0 : st.ss ++ [(⟨c, m, x.1, x.2⟩ : Src)] ≠ [] := by simp
            rw [show [Value.string nc, .bool m, .string tx, .int .i64 (x.2 : Int)] = srcV ⟨c, m, x.1, x.2⟩ by show _ = [strV c, Value.bool m, strV x.1, Value.int .i64 (x.2 : Int)]; rw [HNC.out, HTX.out], ← flatS_snoc, show st.ss.length + 1 = (st.ss ++ [(⟨c, m, x.1, x.2⟩ : Src)]).length by simp] at hown'
            have htx' : ∀ y ∈ st.ss ++ [(⟨c, m, x.1, x.2⟩ : Src)], y.text ≠ [] := by
              intro y hy
              rcases List.mem_append.1 hy with hy | hy
              · exact HTXS.out y hy
              · rw [List.mem_singleton] at hy; subst hy; exact hem
            have hRF : Rdr (w.heap.size + 1) (w.heap.size + 1) { st with ss := st.ss ++ [⟨c, m, x.1, x.2⟩] } (w'.setCell ⟨w.heap.size + 1, 1, none⟩ (.slice (some ⟨g', 0, none⟩) (st.ss.length + 1) c')) := by
              refine ⟨cv, .slice (some ⟨g', 0, none⟩) (st.ss.length + 1) c', .pointer (some ⟨kk, 0, none⟩), cl, Nat.le_refl _, hRb'.set_ 1 _ _ rfl, HCL.out, own_set (own_grown (own_below HOWNC.out HXR.out) hgrow HOC.out (by decide)) hRb' (by decide) 1 _, fun y hy => own_set (own_grown (own_below (HFL.out y hy) HXR.out) hgrow HOC.out (by decide)) hRb' (by decide) 1 _, ?_, htx', ?_⟩
              · have := own_set hown' hRb' (by decide) 1 (.slice (some ⟨g', 0, none⟩) (st.ss.length + 1) c')
                simpa using this
              · have hKs : Blk SrT kk #[strV c, .bool m, .string ⟨#[]⟩, .int .i64 0] w' := by rw [HNC.out]; exact hK'
                have := src_free (c := c) (m := m) hown' htx' hne0 hKs
                show OpnAt _ _ _ st.opn _
                rw [ho]
                refine ⟨kk, rfl, hkk1, hKs.far (p := ⟨w.heap.size + 1, 1, none⟩) hne1 _, ?_⟩
                simpa using this
            have HBF := Lib.hid hBF
            have HKF := Lib.hid hKF
            have HRF := Lib.hid hRF
            clear hBF hKF hRF hXw htx' hown' hne0 hgrow hK' hP' hRb' hHeld hHeld1 hHeld2 hHeld3 hHeld4
            go_wp2_with fail
            exact ⟨⟨k + 1, _, vint (by omega), by omega, HST', HML.out, HRF, HKF, HBF.out⟩, by simp only [intOf]; omega⟩
          · go_simp
            refine hK.out _ _ ?_ (fun hHeld1 => ?_)
            · try dsimp only
              go_keep
            clear hK K
            try simp only [Act.put, List.setIfInBounds_toArray, List.set_cons_zero, List.set_cons_succ]
            have r1X : (W4.alloc (Obj.cells #[.string nc, .bool m, .string tx, .int .i64 (x.2 : Int)] SrT)).cell? ⟨w.heap.size + 1, 1, none⟩ = some sv := HRB.out.c 1 _ rfl
            refine wpAnyH_ready (rs := [2]) (by kernel_rfl) (by simp) ?_
            refine AllReadyH.cons rfl (fun K hK => ?_) AllReadyH.nil
            go_simp
            refine hK.out _ _ ?_ (fun hHeld2 => ?_)
            · try dsimp only
              go_keep
            clear hK K
            try simp only [Act.put, List.setIfInBounds_toArray, List.set_cons_zero, List.set_cons_succ]
            refine wpAnyH_ready (rs := [19]) (by kernel_rfl) (by simp) ?_
            refine AllReadyH.cons rfl (fun K hK => ?_) AllReadyH.nil
            (refine step_append_own rfl (.tmp 45) (.tmp 61) 24 rfl (w.heap.size + 1) SrT i0 (.agg #[.string ⟨#[]⟩, .bool false, .string ⟨#[]⟩, .int .i64 0]) 4 48 tsl hi hz0 hz1 hz2 rfl (by decide) sv st.ss.length (flatS st.ss) (by simp [Act.eval]) HOC.out ⟨W4.heap.size, 0, none⟩ 1 1 [.string nc, .bool m, .string tx, .int .i64 (x.2 : Int)] (by simp [Act.eval]) rfl HNEW.out HONE.out HB1.out HB2.out HB3'.out ?_; intro v' w' hown' hgrow; have hRb' := blk_grown HRB.out hgrow HOC.out (by decide); have hP' := blk_grown (HPB.out.below HXR.out HPB.out.lt) hgrow HOC.out (by decide); have hK' := (hgrow.block kk (Nat.lt_of_lt_of_le hkl HXR.out.size) (fun h => HKK3.out h.symm)).trans (HKK0.out.below HXR.out hkl); replace hK' : Blk SrT kk _ w' := hK'; obtain ⟨g', c', rfl⟩ := own_form hown' (by omega); have r0' := hRb'.c 1 _ rfl; have rf' := hRb'.fz)
            refine hK.out _ _ ?_ (fun hHeld3 => ?_)
            · try dsimp only
              exact ⟨hRb'.c 2 _ rfl, hK'.c 0 _ rfl, hK'.c 1 _ rfl, hP'.c 0 _ rfl, hP'.c 1 _ rfl⟩
            clear hK K
            try simp only [Act.put, List.setIfInBounds_toArray]
            refine wpAnyH_take (i := 20) (v := ?_) rfl (by kernel_rfl) (by kernel_rfl) (by kernel_rfl) (fun _ _ _ h => h) (Or.inl ⟨by rfl, ?_⟩) hHeld3 ?_
            rotate_left
            · intro w hSw
              (try dsimp only at hSw)
              go_simp
              try with_reducible rfl
            try simp only [Act.put]
            refine wpAnyH_take (i := 21) (v := ?_) rfl (by kernel_rfl) (by kernel_rfl) (by kernel_rfl) (fun _ _ _ h => h) (Or.inl ⟨by rfl, ?_⟩) hHeld3 ?_
            rotate_left
            · intro w hSw
              (try dsimp only at hSw)
              go_simp
              try with_reducible rfl
            try simp only [Act.put]
            refine wpAnyH_ready (rs := [22]) (by kernel_rfl) (by simp) ?_
            refine AllReadyH.cons rfl (fun K hK => ?_) AllReadyH.nil
            go_simp
            refine hK.out _ _ ?_ (fun hHeld4 => ?_)
            · try dsimp only
              exact ⟨(hRb'.set_ 1 _ _ rfl).c 2 _ rfl, (hK'.far (p := ⟨w.heap.size + 1, 1, none⟩) hne1 _).c 0 _ rfl, (hK'.far (p := ⟨w.heap.size + 1, 1, none⟩) hne1 _).c 1 _ rfl, (hP'.far (p := ⟨w.heap.size + 1, 1, none⟩) hne2 _).c 0 _ rfl, (hP'.far (p := ⟨w.heap.size + 1, 1, none⟩) hne2 _).c 1 _ rfl⟩
            clear hK K
            try simp only [Act.put, List.setIfInBounds_toArray, List.set_cons_zero, List.set_cons_succ]
            refine wpAnyH_done (by kernel_rfl) ?_ _
            simp only [NoPanic]
            have hXw : Below (w.heap.size + 1) W3 (W4.alloc (Obj.cells #[.string nc, .bool m, .string tx, .int .i64 (x.2 : Int)] SrT)).drew := HBY.out.trans (HXR.out.mono (by omega))
            have hBF := (hXw.grown hgrow (by have := hXw.size; omega) (fun k hk => (HOC.out.lt k hk).1)).setCell (p := ⟨w.heap.size + 1, 1, none⟩) (Nat.le_refl _) (.slice (some ⟨g', 0, none⟩) (st.ss.length + 1) c')
            have hKF := ((HKX.out.below HXR.out).grown hgrow HOC.out).set_ hRb' 1 (.slice (some ⟨g', 0, none⟩) (st.ss.length + 1) c')
            have hne0 : st.ss ++ [(⟨c, m, x.1, x.2⟩ : Src)] ≠ [] := by simp
            rw [show [Value.string nc, .bool m, .string tx, .int .i64 (x.2 : Int)] = srcV ⟨c, m, x.1, x.2⟩ by show _ = [strV c, Value.bool m, strV x.1, Value.int .i64 (x.2 : Int)]; rw [HNC.out, HTX.out], ← flatS_snoc, show st.ss.length + 1 = (st.ss ++ [(⟨c, m, x.1, x.2⟩ : Src)]).length by simp] at hown'
            have htx' : ∀ y ∈ st.ss ++ [(⟨c, m, x.1, x.2⟩ : Src)], y.text ≠ [] := by
              intro y hy
              rcases List.mem_append.1 hy with hy | hy
              · exact HTXS.out y hy
              · rw [List.mem_singleton] at hy; subst hy; exact hem
            have hRF : Rdr (w.heap.size + 1) (w.heap.size + 1) { st with ss := st.ss ++ [⟨c, m, x.1, x.2⟩] } (w'.setCell ⟨w.heap.size + 1, 1, none⟩ (.slice (some ⟨g', 0, none⟩) (st.ss.length + 1) c')) := by
              refine ⟨cv, .slice (some ⟨g', 0, none⟩) (st.ss.length + 1) c', .pointer (some ⟨kk, 0, none⟩), cl, Nat.le_refl _, hRb'.set_ 1 _ _ rfl, HCL.out, own_set (own_grown (own_below HOWNC.out HXR.out) hgrow HOC.out (by decide)) hRb' (by decide) 1 _, fun y hy => own_set (own_grown (own_below (HFL.out y hy) HXR.out) hgrow HOC.out (by decide)) hRb' (by decide) 1 _, ?_, htx', ?_⟩
              · have := own_set hown' hRb' (by decide) 1 (.slice (some ⟨g', 0, none⟩) (st.ss.length + 1) c')
                simpa using this
              · have hKs : Blk SrT kk #[strV c, .bool m, .string ⟨#[]⟩, .int .i64 0] w' := by rw [HNC.out]; exact hK'
                have := src_free (c := c) (m := m) hown' htx' hne0 hKs
                show OpnAt _ _ _ st.opn _
                rw [ho]
                refine ⟨kk, rfl, hkk1, hKs.far (p := ⟨w.heap.size + 1, 1, none⟩) hne1 _, ?_⟩
                simpa using this
            have HBF := Lib.hid hBF
            have HKF := Lib.hid hKF
            have HRF := Lib.hid hRF
            clear hBF hKF hRF hXw htx' hown' hne0 hgrow hK' hP' hRb' hHeld hHeld1 hHeld2 hHeld3 hHeld4
            go_wp2_with fail
            exact ⟨⟨k + 1, _, vint (by omega), by omega, HST', HML.out, HRF, HKF, HBF.out⟩, by simp only [intOf]; omega⟩
    · have hdec2 : decide ((k : Int) < (np : Int)) = false := by simpa using hkn
      have hFe : F = .ok st := by rw [← hrd.out, List.drop_eq_nil_of_le (by rw [HNP.out]; omega)]; rfl
      have hE := HE.out
      rw [hFe] at hE
      simp only [] at hE
      have hu := hkr.out.blk HU3.out (by decide) (by decide) (by decide)
      have hp := hkr.out.blk HP3.out (by decide) (by decide) (by decide)
      have p0 := hp.c 0 _ rfl
      have p1 := hp.c 1 _ rfl
      have u0 := hu.c 0 _ rfl
      have u1 := hu.c 1 _ rfl
      have uf := hu.fz
      have hbe := HB3.out.trans (hbr.mono (by omega : w.heap.size ≤ w.heap.size + 1))
      obtain ⟨cv, sv, ov, cl, hBR, hRb, hcl, hownC, hfl, hownS, htx, hop⟩ := hRr.out
      have r2 := hRb.c 2 _ rfl
      have r0 := hRb.c 0 _ rfl
      have r1 := hRb.c 1 _ rfl
      have HBE := Lib.hid hbe
      by_cases hne : (restL Y).1 = []
      · rw [if_neg (by simp [hne])] at hE
        have he : (rt.toList == []) = true := by rw [ByteArray.toList_eq, HRT.out, hne]; rfl
        cases ho : st.opn with
        | none =>
          rw [ho, if_neg (by simp)] at hE
          rw [ho] at hop
          have hop : ov = .pointer none := hop
          subst hop
          obtain ⟨co, cc, rfl, _⟩ := own_slice hownC
          obtain ⟨so, sc, rfl, _⟩ := own_slice hownS
          have HUN : Hid (Units w.heap.size (.slice co cl.length cc) (.slice so st.ss.length sc) st.cs st.ss wr) := Lib.hid ⟨cl, hcl, own_mono hownC (by omega), fun x hx => own_mono (hfl x hx) (by omega), own_mono hownS (by omega)⟩
          clear hcl hownC hfl hownS htx hbe hp hRb hFe hne
          go_wp2_with fail
          have hu2 := (hu.set_ 0 (.slice co cl.length cc) _ rfl).set_ 1 (.slice so st.ss.length sc) _ rfl
          have HUN2 : Hid (Units w.heap.size (.slice co cl.length cc) (.slice so st.ss.length sc) st.cs st.ss ((wr.setCell ⟨w.heap.size, 0, none⟩ (.slice co cl.length cc)).setCell ⟨w.heap.size, 1, none⟩ (.slice so st.ss.length sc))) := Lib.hid ((HUN.out.set_ hu (by decide) (by decide) (by decide) 0 _).set_ (hu.set_ 0 (.slice co cl.length cc) _ rfl) (by decide) (by decide) (by decide) 1 _)
          have HBE2 := Lib.hid ((HBE.out.setCell (p := ⟨w.heap.size, 0, none⟩) (Nat.le_refl _) (.slice co cl.length cc)).setCell (p := ⟨w.heap.size, 1, none⟩) (Nat.le_refl _) (.slice so st.ss.length sc))
          obtain ⟨V, hV⟩ : ∃ V, (wr.setCell ⟨w.heap.size, 0, none⟩ (.slice co cl.length cc)).setCell ⟨w.heap.size, 1, none⟩ (.slice so st.ss.length sc) = V := ⟨_, rfl⟩
          rw [hV] at hu2 HUN2 HBE2 ⊢
          clear hV
          have e0 := hu2.c 0 _ rfl
          have e1 := hu2.c 1 _ rfl
          refine bodyPost_ret (v := .tuple #[.agg #[.slice co cl.length cc, .slice so st.ss.length sc], .int .i64 0, .int .i64 0]) (by simp [results, Tryz.results8, go_sem, e0, e1]) rfl ?_
          rw [← hE]
          exact ⟨HBE2.out, _, _, rfl, HUN2.out⟩
        | some cm =>
          rw [ho, if_pos (by simp)] at hE
          rw [ho] at hop
          obtain ⟨kk, rfl, _⟩ := hop
          clear hcl hownC hfl hownS htx hbe hp hRb hFe hne
          go_wp2_with fail
          refine bodyPost_ret (v := .tuple #[.agg #[.slice none 0 0, .slice none 0 0], .int .i64 (s.size : Int), .int .i64 4]) (by simp [results, Tryz.results8, go_sem, u0, u1]) rfl ?_
          rw [← hE]
          exact ⟨(HBE.out.setCell (p := ⟨w.heap.size, 0, none⟩) (Nat.le_refl _) _).setCell (p := ⟨w.heap.size, 1, none⟩) (Nat.le_refl _) _, rfl, by decide⟩
      · rw [if_pos hne] at hE
        have he : (rt.toList == []) = false := by rw [beq_eq_false_iff_ne, ByteArray.toList_eq, HRT.out]; exact hne
        clear hcl hownC hfl hownS htx hbe hp hRb hFe hop
        go_wp2_with fail
        go_region
        all_goals
          go_wp2_with fail
          have hu2 := (hu.set_ 0 (.slice none 0 0) _ rfl).set_ 1 (.slice none 0 0) _ rfl
          have HBE2 := Lib.hid ((HBE.out.setCell (p := ⟨w.heap.size, 0, none⟩) (Nat.le_refl _) (.slice none 0 0)).setCell (p := ⟨w.heap.size, 1, none⟩) (Nat.le_refl _) (.slice none 0 0)).drew
          obtain ⟨V, hV⟩ : ∃ V, ((wr.setCell ⟨w.heap.size, 0, none⟩ (.slice none 0 0)).setCell ⟨w.heap.size, 1, none⟩ (.slice none 0 0)).drew = V := ⟨_, rfl⟩
          replace hu2 : Blk UT w.heap.size _ ((wr.setCell ⟨w.heap.size, 0, none⟩ (.slice none 0 0)).setCell ⟨w.heap.size, 1, none⟩ (.slice none 0 0)).drew := hu2
          rw [hV] at hu2 HBE2 ⊢
          clear hV
          have e0 := hu2.c 0 _ rfl
          have e1 := hu2.c 1 _ rfl
          refine bodyPost_ret (v := .tuple #[.agg #[.slice none 0 0, .slice none 0 0], .int .i64 ((restL Y).2 : Int), .int .i64 4]) (by simp [results, Tryz.results8, go_sem, e0, e1]) rfl ?_
          rw [← hE]
          exact ⟨HBE2.out, rfl, by decide⟩
end Ck
end Go.Proofs.YthdigbkcffihkaaGreatDoor
namespace Go.Proofs.YthdigbkcffihkaaGreatDoor
open Go.RowKit
namespace Ck
open Lx
variable {w : World}
theorem read_any (s : ByteArray) (w : World) (hev : ErrVar w) :
    Calls Tryz.prog 8 #[.string s] w (Readed (readR s.data.toList) w) := by
  by_cases h : 65536 < s.size
  · exact read_big s w h
  · exact read_small s w h hev
/-- Where a text's byte stands. -/
def placeL (at_ : Nat) (t : Bytes) (i : Int) : Nat := at_ + (max 0 (min i (t.length : Int))).toNat + cnt (t.take (max 0 (min i (t.length : Int))).toNat)
set_option maxRecDepth 100000 in
set_option maxHeartbeats 800000 in
theorem place_any (c tx : ByteArray) (m : Bool) (at_ : Nat) (i : Int) (w : World) (hs : tx.size ≤ 1099511627) (ha : at_ ≤ 1099511627) :
    Calls Tryz.prog 12 #[.agg #[.string c, .bool m, .string tx, .int .i64 (at_ : Int)], .int .i64 i] w (Back (.int .i64 (placeL at_ tx.data.toList i : Nat)) w) := by
  obtain ⟨j, hj, hjs⟩ : ∃ j : Nat, max 0 (min i (tx.size : Int)) = (j : Int) ∧ j ≤ tx.size := ⟨(max 0 (min i (tx.size : Int))).toNat, by omega, by omega⟩
  have hpl : placeL at_ tx.data.toList i = at_ + j + cnt (tx.data.toList.take j) := by
    unfold placeL
    rw [show (tx.data.toList.length : Int) = (tx.size : Int) from rfl, hj]
    rfl
  have hcl : cnt (tx.data.toList.take j) ≤ j := by
    have h1 : cnt (tx.data.toList.take j) ≤ (tx.data.toList.take j).length := List.count_le_length
    rw [List.length_take] at h1
    omega
  rw [hpl]
  obtain ⟨y, hy⟩ : ∃ y : ByteArray, tx.extract 0 j = y := ⟨_, rfl⟩
  have dy : y.data.toList = tx.data.toList.take j := by rw [← hy]; simp [ByteArray.extract, ByteArray.copySlice]
  have hC := fun v : World => Tryz.strings_Count_one y 33 v
  rw [dy, show Lib.countByte (tx.data.toList.take j) 33 = cnt (tx.data.toList.take j) from rfl] at hC
  obtain ⟨q, hq⟩ : ∃ q, cnt (tx.data.toList.take j) = q := ⟨_, rfl⟩
  rw [hq] at hC hcl ⊢
  have HC := Lib.hid hC
  clear hpl dy hC hq
  have s1 : IntKind.i64.wrap ((at_ : Int) + (j : Int)) = (at_ : Int) + (j : Int) := IntWalk.i64_in _ (by omega)
  have s2 : IntKind.i64.wrap ((at_ : Int) + (j : Int) + (q : Int)) = ((at_ + j + q : Nat) : Int) := by rw [show ((at_ : Int) + (j : Int) + (q : Int)) = ((at_ + j + q : Nat) : Int) by omega]; exact IntWalk.i64_in _ (by omega)
  have S2 := Lib.hid s2
  clear s2
  have h0 : (0 : Int) ≤ (j : Int) := by omega
  have h1 : (j : Int) ≤ (tx.size : Int) := by omega
  go_enter Tryz.func12, Tryz.ntmps12
  go_wp2_with fail
  have hk := Blk.made (T := SrT) (cs := #[.string c, .bool m, .string tx, .int .i64 (at_ : Int)]) w
  have hb : Below w.heap.size w (w.alloc (.cells #[.string c, .bool m, .string tx, .int .i64 (at_ : Int)] SrT)) := (Below.refl _ _).alloc (Nat.le_refl _) _
  obtain ⟨W, hW⟩ : ∃ W, w.alloc (.cells #[.string c, .bool m, .string tx, .int .i64 (at_ : Int)] SrT) = W := ⟨_, rfl⟩
  rw [hW] at hk hb ⊢
  clear hW
  have c2 := hk.c 2 _ rfl
  have c3 := hk.c 3 _ rfl
  go_region_with (go_at_call 23; refine (HC.out _).mono ?_; rintro e w' ⟨rfl, rfl⟩)
  all_goals
    go_wp2_with fail
    go_ret
    rw [S2.out]
    exact ⟨rfl, hb.drew⟩
def awakeB : Bytes := [110, 105, 108, 32, 115, 117, 98, 99, 108, 97, 115, 115, 58, 32, 35, 79, 98, 106, 101, 99, 116, 32, 102, 105, 101, 108, 100, 115, 58, 32, 39, 39, 33, 32, 79, 98, 106, 101, 99, 116, 32, 109, 101, 116, 104, 111, 100, 115, 33, 32, 120, 32, 94, 49, 33, 32, 33]
theorem awake_read : readR awakeB = .ok ([⟨[79, 98, 106, 101, 99, 116], [], [], 0⟩], [⟨[79, 98, 106, 101, 99, 116], false, [120, 32, 94, 49], 50⟩]) := by rfl
theorem srcs_at {w : World} {B n c gg : Nat} {l : List Src} (h : w.ownsRow B SrT 4 (.slice (some ⟨gg, 0, none⟩) n c) l.length (flatS l)) (i : Nat) (x : Src) (hx : l[i]? = some x) :
    w.cell? ⟨gg, i * 4, none⟩ = some (.string ⟨x.cls.toArray⟩) ∧ w.cell? ⟨gg, i * 4 + 1, none⟩ = some (.bool x.meta_) ∧ w.cell? ⟨gg, i * 4 + 2, none⟩ = some (.string ⟨x.text.toArray⟩) ∧ w.cell? ⟨gg, i * 4 + 3, none⟩ = some (.int .i64 (x.at_ : Int)) := by
  have hf : ∀ (l : List Src) (i : Nat) (p : Src), l[i]? = some p → ∀ j u, (srcV p)[j]? = some u → (flatS l)[i * 4 + j]? = some u := by
    intro l
    induction l with
    | nil => intro i p h; simp at h
    | cons t l ih =>
      intro i p h j u hu
      have hj : j < (srcV t).length := by
        have := (List.getElem?_eq_some_iff.1 hu).1
        exact this
      cases i with
      | zero =>
        simp at h; subst h
        unfold flatS; rw [List.flatMap_cons, Nat.zero_mul, Nat.zero_add, List.getElem?_append_left hj]; exact hu
      | succ i =>
        have ih := ih i p (by simpa using h) j u hu
        unfold flatS at ih ⊢
        have h4 : (srcV t).length = 4 := rfl
        rw [List.flatMap_cons, List.getElem?_append_right (by rw [h4]; omega), h4, show (i + 1) * 4 + j - 4 = i * 4 + j by omega]
        exact ih
  have ha : ∀ k : Nat, (⟨gg, 0, none⟩ : Addr).add k = ⟨gg, k, none⟩ := fun k => by unfold Addr.add; split <;> simp_all
  have hh := fun j u hu => World.ownsRow.cells h (g := gg) rfl (i * 4 + j) u (hf l i x hx j u hu)
  simp only [ha] at hh
  exact ⟨hh 0 _ rfl, hh 1 _ rfl, hh 2 _ rfl, hh 3 _ rfl⟩
set_option maxRecDepth 100000 in
set_option maxHeartbeats 1600000 in
theorem awake12_any (w : World) (hev : ErrVar w) : Calls Tryz.prog 7 #[] w (Back (.bool true) w) := by
  have hR := fun v (h : ErrVar v) => read_any ⟨awakeB.toArray⟩ v h
  rw [show (⟨awakeB.toArray⟩ : ByteArray).data.toList = awakeB from rfl, awake_read] at hR
  have HR := Lib.hid hR
  clear hR
  go_enter Tryz.func7, Tryz.ntmps7
  go_wp2_with fail
  refine (HR.out w hev).mono ?_; rintro e w1 ⟨hb, cv, sv, rfl, cl, hcl, hownC, hfl, hownS⟩
  have hc1 : cl.length = 1 := by have := congrArg List.length hcl; simpa using this
  obtain ⟨co, cc, rfl, hco⟩ := own_slice hownC
  obtain ⟨so, sc, rfl, hso⟩ := own_slice hownS
  rw [hc1] at hco ⊢
  simp only [List.length_cons, List.length_nil, Nat.zero_add] at hso hownS ⊢
  obtain ⟨gs, rfl, hgs1, hgs2, hgs3, hgs4⟩ := hso (by omega)
  obtain ⟨c0, c1, c2, c3⟩ := srcs_at (l := [⟨[79, 98, 106, 101, 99, 116], false, [120, 32, 94, 49], 50⟩]) hownS 0 _ rfl
  simp only [Nat.zero_mul, Nat.zero_add] at c0 c1 c2 c3
  clear hownC hownS hfl hcl hc1 hco hso
  go_wp2_with fail
  go_ret
  exact ⟨rfl, hb.alloc hb.size _⟩
end Ck
end Go.Proofs.YthdigbkcffihkaaGreatDoor
namespace Go.Proofs.YthdigbkcffihkaaGreatDoor
open Go.RowKit
namespace Ck
open Lx
theorem read_mild (s : Bytes) (cs : List Cls) (ss : List Src) (h : readR s = .ok (cs, ss)) : ∀ x ∈ ss, x.text.length ≤ s.length ∧ x.at_ ≤ s.length := by
  obtain ⟨_, h2, _⟩ := readR_ok h
  intro x hx
  rcases readP_ss _ _ _ h2 x hx with h0 | ⟨p, hp, h3, h4⟩
  · cases h0
  · have := (cut_le s).2.1 p hp
    rw [h3, h4]
    exact this
theorem place_in (at_ : Nat) (t : Bytes) (k : Nat) (h : k < t.length) : placeL at_ t (k : Int) = at_ + k + cnt (t.take k) := by
  unfold placeL
  rw [show (max 0 (min (k : Int) (t.length : Int))).toNat = k by omega]
theorem place_neg (at_ : Nat) (t : Bytes) (i : Int) (h : i < 0) : placeL at_ t i = at_ := by
  unfold placeL
  rw [show (max 0 (min i (t.length : Int))).toNat = 0 by omega]
  simp [cnt, Lib.countByte]
theorem place_far (at_ : Nat) (t : Bytes) (i : Int) (h : (t.length : Int) ≤ i) : placeL at_ t i = placeL at_ t (t.length : Int) := by
  unfold placeL
  rw [show (max 0 (min i (t.length : Int))).toNat = (max 0 (min (t.length : Int) (t.length : Int))).toNat by omega]
/-- At most n bytes. -/
def cutB (s : ByteArray) (n : Nat) : ByteArray := if n < s.size then s.extract 0 n else s
theorem cutB_le (s : ByteArray) (n : Nat) : (cutB s n).size ≤ n := by
  unfold cutB; split
  · rw [ByteArray.size_extract]; omega
  · omega
end Ck
end Go.Proofs.YthdigbkcffihkaaGreatDoor
