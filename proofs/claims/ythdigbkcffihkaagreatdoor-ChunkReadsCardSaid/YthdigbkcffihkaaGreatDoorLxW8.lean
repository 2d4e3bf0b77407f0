/- Package lex, the walk, 8: text. -/
import Derived.Test.YthdigbkcffihkaaGreatDoorLxW7
import Derived.Test.YthdigbkcffihkaaGreatDoorLxB
set_option linter.unusedVariables false
namespace Go.Proofs.YthdigbkcffihkaaGreatDoor
open Go.RowKit
namespace Lx
theorem txt_out (s : ByteArray) (i : Nat) (h : s.size ≤ i) : txt (s.data.toList.drop i) = none := by
  rw [List.drop_eq_nil_of_le (show s.data.toList.length ≤ i from h)]; simp [txt]
theorem drop_cons (s : ByteArray) (i : Nat) (h : i < s.size) : s.data.toList.drop i = s[i] :: s.data.toList.drop (i + 1) :=
  List.drop_eq_getElem_cons (show i < s.data.toList.length from h)
theorem txt_on (s : ByteArray) (i : Nat) (h : i < s.size) (hc : s[i] ≠ 39) : txt (s.data.toList.drop i) = (txt (s.data.toList.drop (i + 1))).map fun x => (s[i] :: x.1, x.2 + 1) := by
  rw [drop_cons s i h]; conv => lhs; rw [txt.eq_def]
  simp only; rw [if_neg hc]
theorem txt_last (s : ByteArray) (i : Nat) (h : i < s.size) (hc : s[i] = 39) (h1 : i + 1 = s.size) : txt (s.data.toList.drop i) = some ([], 1) := by
  rw [drop_cons s i h, List.drop_eq_nil_of_le (show s.data.toList.length ≤ i + 1 from Nat.le_of_eq h1.symm)]; conv => lhs; rw [txt.eq_def]
  simp only; rw [if_pos hc]
theorem txt_end (s : ByteArray) (i : Nat) (h : i < s.size) (hc : s[i] = 39) (h1 : i + 1 < s.size) (hd : s[i + 1] ≠ 39) : txt (s.data.toList.drop i) = some ([], 1) := by
  rw [drop_cons s i h, drop_cons s (i + 1) h1]; conv => lhs; rw [txt.eq_def]
  simp only; rw [if_pos hc, if_neg hd]
theorem txt_two (s : ByteArray) (i : Nat) (h : i < s.size) (hc : s[i] = 39) (h1 : i + 1 < s.size) (hd : s[i + 1] = 39) : txt (s.data.toList.drop i) = (txt (s.data.toList.drop (i + 2))).map fun x => (39 :: x.1, x.2 + 2) := by
  rw [drop_cons s i h, drop_cons s (i + 1) h1]; conv => lhs; rw [txt.eq_def]
  simp only; rw [if_pos hc, if_pos hd]
theorem Mv.on {b : Nat} {w w1 w2 : World} (h : Mv b w w1) (k : Below w.heap.size w1 w2) : Mv b w w2 :=
  ⟨k.os.trans h.os, k.tape.trans h.tape, k.output.trans h.output, Nat.le_trans h.size k.size, fun j hj hne => (k.block j hj).trans (h.block j hj hne)⟩
theorem BuilderAt_far {T e B k : Nat} {p : Value} {bs : List Value} {w : World} (h : Lib.BuilderAt T e B k p bs w) {a : Addr} (ha : a.block < B) (u : Value) : Lib.BuilderAt T e B k p bs (w.setCell a u) := by
  obtain ⟨hB, v, hb, hown, hne⟩ := h
  exact ⟨hB, v, (Below.heap_setCell w a u k (by omega)).trans hb, ownsRow_setCell_below hown ha u, hne⟩
theorem IsBuilder_far {T e B k : Nat} {bs : List Value} {w : World} (h : Lib.IsBuilder T e B k bs w) {a : Addr} (ha : a.block < B) (u : Value) : Lib.IsBuilder T e B k bs (w.setCell a u) :=
  h.imp (BuilderAt_far · ha u) (BuilderAt_far · ha u)
/-- What stands between the quotes, where the reader is behind it; or there is no end. -/
def Texted (b : Nat) (s : ByteArray) (begin_ : Int) (x : Option (Bytes × Nat)) (w : World) (e : Ending) (w' : World) : Prop :=
  match x with
  | none => Fell b begin_ 4 w e w'
  | some (l, z) => if 4096 < l.length then Fell b begin_ 2 w e w' else Turn RT b s z (.string ⟨l.toArray⟩) w e w'
def moved2 (pre : Bytes) (i : Nat) (x : Option (Bytes × Nat)) : Option (Bytes × Nat) := x.map fun x => (pre ++ x.1, x.2 + i)
variable {b at_ : Nat} {s : ByteArray} {w : World}
set_option maxHeartbeats 8000000 in
theorem text_any (begin_ : Int) (hs : s.size ≤ 140737488351232) (hat : at_ < s.size) (hrd : Rd RT b s at_ w) :
    Calls Tryz.prog 103 #[.pointer (some ⟨b, 0, none⟩), .int .i64 begin_] w (Texted b s begin_ (moved2 [] (at_ + 1) (txt (s.data.toList.drop (at_ + 1)))) w) := by
  have c0 := hrd.c0
  have c1 := hrd.c1
  have hbl := hrd.lt
  obtain ⟨E, hE⟩ : ∃ E, moved2 [] (at_ + 1) (txt (s.data.toList.drop (at_ + 1))) = E := ⟨_, rfl⟩
  rw [hE]
  have hsum : IntKind.i64.wrap ((at_ : Int) + 1) = (at_ : Int) + 1 := IntWalk.i64_in _ (by omega)
  go_enter Tryz.func103, Tryz.ntmps103
  go_wp2
  go_loopw [6] (fun y wr => ∃ (i : Nat) (pre : Bytes), y = .int .i64 (i : Int) ∧ at_ + 1 ≤ i ∧ i ≤ s.size ∧ pre.length ≤ i ∧ moved2 pre i (txt (s.data.toList.drop i)) = E ∧ Lib.IsBuilder BT U8 w.heap.size w.heap.size (Lib.byteCells pre) wr ∧ Below w.heap.size w wr) (fun y _ => s.size - (intOf y).toNat)
  case atStart =>
    refine ⟨at_ + 1, [], vint (by omega), Nat.le_refl _, by omega, by simp, hE, ?_, ?_⟩
    · exact Lib.fresh_isBuilder BT U8 w
    · exact (Below.refl _ w).alloc (Nat.le_refl _) _
  case round =>
    obtain ⟨i, pre, rfl, hi1, hi2, hpre, hiE, hB, hbel⟩ := hrel
    have hr := hrd.below hbel hbl
    have d0 := hr.c0
    have d1 := hr.c1
    have df := hr.fz
    by_cases hlt : i < s.size
    · by_cases hc : s[i] = 39
      · have hcb : ((s[i].toNat : Int) == 39) = true := by rw [hc]; rfl
        have hcb2 : ((s[i].toNat : Int) != 39) = false := by rw [hc]; rfl
        have hsum2 : IntKind.i64.wrap ((i : Int) + 1) = (i : Int) + 1 := IntWalk.i64_in _ (by omega)
        by_cases h1 : i + 1 = s.size
        · have ht := txt_last s i hlt hc h1
          have hE2 : E = some (pre, i + 1) := by rw [← hiE, ht]; simp [moved2]; omega
          subst hE2
          have h1b : ((i : Int) + 1 == (s.size : Int)) = true := by rw [beq_iff_eq]; omega
          clear ht hiE hE hc
          go_wp2_with fail
          have hcast : ((i + 1 : Nat) : Int) = (i : Int) + 1 := by omega
          have hS := hr.set_ (i + 1)
          rw [hcast] at hS
          have hM := (Mv.below hbel : Mv b w wr).set_ 1 (.int .i64 ((i : Int) + 1))
          have hZ := hbel.size
          have hB2 := IsBuilder_far hB (a := ⟨b, 1, none⟩) hbl (.int .i64 ((i : Int) + 1))
          obtain ⟨W, hW⟩ : ∃ W, wr.setCell ⟨b, 1, none⟩ (.int .i64 ((i : Int) + 1)) = W := ⟨_, rfl⟩
          rw [hW] at hS hM hB2 ⊢
          clear hW
          have hWs : w.heap.size ≤ W.heap.size := hM.size
          refine (Tryz.Builder_Len w.heap.size w.heap.size (Lib.byteCells pre) _ hB2).mono ?_
          rintro e w3 ⟨rfl, rfl⟩
          rw [Lib.byteCells_length]
          by_cases hbig : 4096 < pre.length
          · have hbi : (4096 : Int) < (pre.length : Int) := by omega
            go_wp2_with fail
            refine (stop_any begin_ 2 _).mono ?_; rintro e w' ⟨rfl, rfl⟩
            go_wp2
            refine ⟨rfl, ?_⟩
            show if 4096 < pre.length then Fell b begin_ 2 w _ _ else _
            rw [if_pos hbig]
            exact ⟨rfl, hM⟩
          · have hbi : ¬ (4096 : Int) < (pre.length : Int) := by omega
            go_wp2_with fail
            refine (Tryz.Builder_String_any w.heap.size w.heap.size pre _ hB2 hWs).mono ?_
            rintro e w4 ⟨rfl, hb4⟩
            go_wp2
            go_ret
            show if 4096 < pre.length then _ else Turn RT b s (i + 1) (.string ⟨pre.toArray⟩) w _ _
            rw [if_neg hbig]
            exact ⟨rfl, hS.below hb4 hbl, hM.on hb4⟩
        · have h1' : i + 1 < s.size := by omega
          have h1b : ((i : Int) + 1 == (s.size : Int)) = false := by rw [beq_eq_false_iff_ne]; omega
          have hsn : ((i : Int) + 1).toNat = i + 1 := by omega
          have hs0 : (0 : Int) ≤ (i : Int) + 1 := by omega
          have hs1 : (i : Int) + 1 < (s.size : Int) := by omega
          by_cases hd : s[i + 1] = 39
          · have ht := txt_two s i hlt hc h1' hd
            have hdb : ((s[i + 1].toNat : Int) == 39) = true := by rw [hd]; rfl
            have hdb2 : ((s[i + 1].toNat : Int) != 39) = false := by rw [hd]; rfl
            have hsum3 : IntKind.i64.wrap ((i : Int) + 1 + 1) = (i : Int) + 1 + 1 := IntWalk.i64_in _ (by omega)
            clear hc
            go_wp2_with fail
            refine (writeByte_any w.heap.size w.heap.size (Lib.byteCells pre) _ _ hB (by rw [Lib.byteCells_length]; omega) hbel.size).mono ?_
            rintro e w2 ⟨rfl, hU, hbel2⟩
            go_wp2
            refine ⟨⟨i + 2, pre ++ [39], vint (by omega), by omega, by omega, by simp; omega, ?_, Or.inr (by simpa [Lib.byteCells] using hU), hbel.trans hbel2⟩, by simp only [intOf]; omega⟩
            rw [← hiE, ht]
            cases txt (s.data.toList.drop (i + 2)) with
            | none => rfl
            | some x => simp [moved2]; omega
          · have ht := txt_end s i hlt hc h1' hd
            have hdb : ((s[i + 1].toNat : Int) == 39) = false := bne_u8 s[i + 1] 39 (by omega) hd
            have hdb2 : ((s[i + 1].toNat : Int) != 39) = true := by simp [bne, hdb]
            have hE2 : E = some (pre, i + 1) := by rw [← hiE, ht]; simp [moved2]; omega
            subst hE2
            clear ht hiE hE hc hd
            go_wp2_with fail
            have hcast : ((i + 1 : Nat) : Int) = (i : Int) + 1 := by omega
            have hS := hr.set_ (i + 1)
            rw [hcast] at hS
            have hM := (Mv.below hbel : Mv b w wr).set_ 1 (.int .i64 ((i : Int) + 1))
            have hZ := hbel.size
            have hB2 := IsBuilder_far hB (a := ⟨b, 1, none⟩) hbl (.int .i64 ((i : Int) + 1))
            obtain ⟨W, hW⟩ : ∃ W, wr.setCell ⟨b, 1, none⟩ (.int .i64 ((i : Int) + 1)) = W := ⟨_, rfl⟩
            rw [hW] at hS hM hB2 ⊢
            clear hW
            have hWs : w.heap.size ≤ W.heap.size := hM.size
            refine (Tryz.Builder_Len w.heap.size w.heap.size (Lib.byteCells pre) _ hB2).mono ?_
            rintro e w3 ⟨rfl, rfl⟩
            rw [Lib.byteCells_length]
            by_cases hbig : 4096 < pre.length
            · have hbi : (4096 : Int) < (pre.length : Int) := by omega
              go_wp2_with fail
              refine (stop_any begin_ 2 _).mono ?_; rintro e w' ⟨rfl, rfl⟩
              go_wp2
              refine ⟨rfl, ?_⟩
              show if 4096 < pre.length then Fell b begin_ 2 w _ _ else _
              rw [if_pos hbig]
              exact ⟨rfl, hM⟩
            · have hbi : ¬ (4096 : Int) < (pre.length : Int) := by omega
              go_wp2_with fail
              refine (Tryz.Builder_String_any w.heap.size w.heap.size pre _ hB2 hWs).mono ?_
              rintro e w4 ⟨rfl, hb4⟩
              go_wp2
              go_ret
              show if 4096 < pre.length then _ else Turn RT b s (i + 1) (.string ⟨pre.toArray⟩) w _ _
              rw [if_neg hbig]
              exact ⟨rfl, hS.below hb4 hbl, hM.on hb4⟩
      · have hcb : ((s[i].toNat : Int) == 39) = false := bne_u8 s[i] 39 (by omega) hc
        have hcb2 : ((s[i].toNat : Int) != 39) = true := by simp [bne, hcb]
        have ht := txt_on s i hlt hc
        go_wp2_with fail
        refine (writeByte_any w.heap.size w.heap.size (Lib.byteCells pre) _ _ hB (by rw [Lib.byteCells_length]; omega) hbel.size).mono ?_
        rintro e w2 ⟨rfl, hU, hbel2⟩
        go_wp2
        refine ⟨⟨i + 1, pre ++ [s[i]], vint (by omega), by omega, by omega, by simp; omega, ?_, Or.inr (by simpa [Lib.byteCells] using hU), hbel.trans hbel2⟩, by simp only [intOf]; omega⟩
        rw [← hiE, ht]
        cases txt (s.data.toList.drop (i + 1)) with
        | none => rfl
        | some x => simp [moved2]; omega
    · have hE2 : E = none := by rw [← hiE, txt_out s i (by omega)]; rfl
      subst hE2
      go_wp2_with fail
      refine (stop_any begin_ 4 _).mono ?_; rintro e w' ⟨rfl, rfl⟩
      go_wp2
      exact ⟨rfl, rfl, Mv.below hbel⟩
end Lx
end Go.Proofs.YthdigbkcffihkaaGreatDoor
