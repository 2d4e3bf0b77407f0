/- strings.Builder's WriteString (in a block of type T, whatever holds the Builder), String; tree's put. -/
import Derived.Test.YtbdgoimbddlcoaaGreatDoorTrWa
import Derived.Test.YtbdgoimbddlcoaaGreatDoorLxWa
set_option linter.unusedVariables false
namespace Go.Proofs.YtbdgoimbddlcoaaGreatDoor
open Go.RowKit
namespace Tr
open Bs Sm
abbrev BT : Nat := 85
abbrev OT : Nat := 87
abbrev BP : Nat := 82
abbrev U8 : Nat := 5
/-- All blocks stay but b and those whose cells are of type T. -/
structure KeepT (b T : Nat) (w w' : World) : Prop where
 os : w'.os = w.os
 tape : w'.tape = w.tape
 output : w'.output = w.output
 size : w.heap.size ≤ w'.heap.size
 block : ∀ k, k < w.heap.size → k ≠ b → (∀ cs fz, w.heap[k]? ≠ some (.cells cs T fz)) → w'.heap[k]? = w.heap[k]?
section
variable {b T : Nat} {w w' w'' : World}
theorem KeepT.refl (b T : Nat) (w : World) : KeepT b T w w := ⟨rfl, rfl, rfl, Nat.le_refl _, fun _ _ _ _ => rfl⟩
theorem KeepT.trans (h : KeepT b T w w') (k : KeepT b T w' w'') : KeepT b T w w'' :=
 ⟨k.os.trans h.os, k.tape.trans h.tape, k.output.trans h.output, Nat.le_trans h.size k.size, fun j hj hb ht => by
  have h1 := h.block j hj hb ht
  rw [k.block j (Nat.lt_of_lt_of_le hj h.size) hb (by rw [h1]; exact ht), h1]⟩
theorem KeepT.set_ (h : KeepT b T w w') (i : Nat) (u : Value) : KeepT b T w (w'.setCell ⟨b, i, none⟩ u) :=
 h.trans ⟨rfl, rfl, rfl, by simp [World.setCell], fun j _ hb _ => Below.heap_setCell w' ⟨b, i, none⟩ u j hb⟩
theorem KeepT.below (h : KeepT b T w w') (k : Below w'.heap.size w' w'') : KeepT b T w w'' :=
 h.trans ⟨k.os, k.tape, k.output, k.size, fun j hj _ _ => k.block j hj⟩
theorem KeepT.of (k : Below w.heap.size w w') : KeepT b T w w' := (KeepT.refl b T w).below k
/-- A block of another type stays. -/
theorem KeepT.blk {T' k : Nat} {cs : Array Value} (h : KeepT b T w w') (hk : Blk T' k cs w) (hkb : k ≠ b) (hT : T' ≠ T) : Blk T' k cs w' :=
 (h.block k hk.lt hkb (fun cs' fz e => by unfold Blk at hk; rw [hk] at e; cases e; exact hT rfl)).trans hk
end
theorem size_builder : (Tryz.prog.info? BT).map (·.size) = some 2 := by kernel_rfl
theorem ptr_builder : Tryz.prog.underlying BP = some (.pointer BT) := by kernel_rfl
theorem uns_ptr : Tryz.prog.underlying 183 = some .unsafePointer := by kernel_rfl
/-- A Builder lies at the beginning of a T. -/
def Lies (T : Nat) : Prop := liesAt Tryz.prog Tryz.prog.depth T (2 / Tryz.prog.cellsOf T) 0 BT 1 = true ∧ T ≠ U8
theorem lies_builder : Lies BT := ⟨by kernel_rfl, by decide⟩
theorem lies_out : Lies OT := ⟨by kernel_rfl, by decide⟩
set_option maxHeartbeats 2000000 in
set_option maxRecDepth 100000 in
theorem ccheck_used (b : Nat) (w : World) (h0 : w.cell? ⟨b, 0, none⟩ = some (.pointer (some ⟨b, 0, none⟩))) :
  Calls Tryz.prog 135 #[.pointer (some ⟨b, 0, none⟩)] w fun e w' => e = .returned (.tuple #[]) ∧ w' = w := by
 obtain ⟨j, hj, _⟩ := Option.map_eq_some_iff.1 size_builder
 go_enter Tryz.func135, Tryz.ntmps135
 go_wp2
 rw [Lib.run_neq_ptr_same w _ ptr_builder hj]
 go_wp2
 go_end0
 exact ⟨rfl, rfl⟩
set_option maxHeartbeats 2000000 in
set_option maxRecDepth 100000 in
theorem ccheck_fresh {T : Nat} (hL : Lies T) (b : Nat) (w : World) (h0 : w.cell? ⟨b, 0, none⟩ = some (.pointer none)) (hsh : w.shape? b = some (T, 2)) (hfz : w.frozen? ⟨b, 0, none⟩ = false) :
  Calls Tryz.prog 135 #[.pointer (some ⟨b, 0, none⟩)] w fun e w' => e = .returned (.tuple #[]) ∧ w' = w.setCell ⟨b, 0, none⟩ (.pointer (some ⟨b, 0, none⟩)) := by
 obtain ⟨j, hj, hjs⟩ := Option.map_eq_some_iff.1 size_builder
 have hL1 := hL.1
 go_enter Tryz.func135, Tryz.ntmps135
 go_wp2
 rw [Lib.run_to_unsafe w ⟨b, 0, none⟩ ptr_builder uns_ptr hj (by rw [hjs]; decide) hsh (Nat.zero_lt_succ 1)]
 simp only [Result.andThen]
 rw [Oper.upon_value]
 go_wp2
 rw [run_callFunc_extern Tryz.func160 (by kernel_rfl) (by kernel_rfl) (by kernel_rfl) (e := Extern.AbiNoEscape.same) (by kernel_rfl)]
 rw [Lib.run_noEscape]
 simp only [Result.andThen]
 rw [Oper.upon_value]
 go_wp2
 rw [Lib.run_from_unsafe w ⟨b, 0, none⟩ uns_ptr ptr_builder hj hsh hL1]
 simp only [Result.andThen]
 rw [Oper.upon_value]
 go_wp2
 go_end0
 exact ⟨rfl, rfl⟩
theorem ccheck_keep {T : Nat} (hL : Lies T) (B b : Nat) (bs : List Value) (w : World) (h : Lib.IsBuilder T U8 B b bs w) :
  Calls Tryz.prog 135 #[.pointer (some ⟨b, 0, none⟩)] w fun e w' => e = .returned (.tuple #[]) ∧ (Lib.BuilderAt T U8 B b (.pointer (some ⟨b, 0, none⟩)) bs w' ∧ Below B w w' ∧ KeepT b U8 w w') := by
 rcases h with h | h
 · refine (ccheck_fresh hL b w h.cell0 h.shape h.frozen0).mono ?_
   rintro e w' ⟨rfl, rfl⟩
   exact ⟨rfl, h.used _, (Below.refl B w).setCell (p := ⟨b, 0, none⟩) h.1 _, (KeepT.refl b U8 w).set_ 0 _⟩
 · refine (ccheck_used b w h.cell0).mono ?_
   rintro e w' ⟨rfl, rfl⟩
   exact ⟨rfl, h, Below.refl B _, KeepT.refl b U8 _⟩
set_option maxHeartbeats 4000000 in
set_option maxRecDepth 100000 in
theorem write_keep {T : Nat} (hL : Lies T) (B b : Nat) (acc : Bytes) (s : Bytes) (w : World) (h : Lib.IsBuilder T U8 B b (Lib.byteCells acc) w) (hlen : acc.length + s.length ≤ 140737488355328) (hBw : B ≤ w.heap.size) :
  Calls Tryz.prog 81 #[.pointer (some ⟨b, 0, none⟩), .string ⟨s.toArray⟩] w fun e w' => (∃ n : Int, e = .returned (.tuple #[.int .i64 n, .nilIface])) ∧ (Lib.IsBuilder T U8 B b (Lib.byteCells (acc ++ s)) w' ∧ Below B w w' ∧ KeepT b U8 w w') := by
 obtain ⟨i0, hi, hz0, hz1, hz2⟩ := info_parts (show (Tryz.prog.info? U8).map (fun i => (i.zero, i.size, i.bytes)) = some (some (.int .u8 0), 1, 1) by kernel_rfl)
 have t37 : Tryz.prog.underlying 83 = some (.slice U8) := by kernel_rfl
 have t9 : Tryz.prog.underlying 9 = some .string := by kernel_rfl
 have hsz : (⟨s.toArray⟩ : ByteArray).size = s.length := rfl
 have hbl : (Lib.byteCells acc).length = acc.length := Lib.byteCells_length acc
 go_enter Tryz.func81, Tryz.ntmps81
 go_wp2_with fail
 refine (ccheck_keep hL B b _ _ h).mono ?_
 rintro e w1 ⟨rfl, h1, hb1, hk1⟩
 obtain ⟨hB, v, hbk, hown, hne⟩ := h1
 have c0 : w1.cell? ⟨b, 0, none⟩ = some (.pointer (some ⟨b, 0, none⟩)) := by rw [Lib.cell_of_heap hbk]; rfl
 have c1 : w1.cell? ⟨b, 1, none⟩ = some v := by rw [Lib.cell_of_heap hbk]; rfl
 go_wp2_with (at_builtin; refine Lib.wpList_append_own_string _ rfl _ _ 83 9 rfl B U8 i0 t37 t9 hi hz0 hz1 hz2 _ _ _ rfl hown ⟨s.toArray⟩ rfl ?c3 ?c4 ?c5 ?_)
 case c3 => unfold maxLen; omega
 case c4 => omega
 case c5 => have := hb1.size; omega
 intro v' w2 hown' hgrow _
 have hlt : b < w1.heap.size := by
  rcases Nat.lt_or_ge b w1.heap.size with h' | h'
  · exact h'
  · simp [Array.getElem?_eq_none h'] at hbk
 have hb2 : w2.heap[b]? = some (.cells #[.pointer (some ⟨b, 0, none⟩), v] T (0, 0)) := by
  rw [hgrow.block b hlt (fun e => hne e.symm)]
  exact hbk
 have d0 : w2.cell? ⟨b, 0, none⟩ = some (.pointer (some ⟨b, 0, none⟩)) := by rw [Lib.cell_of_heap hb2]; rfl
 have d1 : w2.cell? ⟨b, 1, none⟩ = some v := by rw [Lib.cell_of_heap hb2]; rfl
 have f1 : w2.frozen? ⟨b, 1, none⟩ = false := Lib.frozen_of_heap hb2 1
 have hk2 : KeepT b U8 w w2 := hk1.trans ⟨hgrow.os, hgrow.tape, hgrow.output, hgrow.size, fun k hk hkb ht => hgrow.block k hk (fun e => by
  obtain ⟨_, hr⟩ := hown
  rcases hr with ⟨rfl, _⟩ | ⟨g, cap, cur, rfl, _, hg, _⟩
  · cases e
  · have e : some k = some g := e
    cases e
    exact ht cur (0, 0) hg)⟩
 obtain ⟨ao, n', cap, rfl⟩ : ∃ ao n' cap, v' = .slice ao n' cap := by
  rcases hown'.2 with ⟨hv, _⟩ | ⟨g, cap, cur, hv, _⟩
  · exact ⟨_, _, _, hv⟩
  · exact ⟨_, _, _, hv⟩
 go_wp2
 go_ret2
 refine ⟨⟨_, rfl⟩, ?_, ?_, hk2.set_ 1 _⟩
 · refine .inr (Lib.BuilderAt.put (T := T) (e := U8) hB hb2 (bs' := Lib.byteCells (acc ++ s)) ?_ hL.2)
   have e : Lib.strCells ⟨s.toArray⟩ = Lib.byteCells s := rfl
   rw [e] at hown'
   rw [Lib.byteCells_append]
   simpa [Lib.byteCells_length] using hown'
 · exact (hb1.grown hgrow (by have := hb1.size; omega) (fun k hk => (hown.lt k hk).1)).setCell (p := ⟨b, 1, none⟩) hB _
/-- What a writer does. -/
def Wr (B b : Nat) (acc t : Bytes) (w : World) (e : Ending) (w' : World) : Prop := e = .returned (.tuple #[]) ∧ Lib.IsBuilder OT U8 B b (Lib.byteCells (acc ++ t)) w' ∧ Below B w w' ∧ KeepT b U8 w w'
theorem isb_below {T B b : Nat} {bs : List Value} {w w' : World} (h : Lib.IsBuilder T U8 B b bs w) (hb : Below w.heap.size w w') : Lib.IsBuilder T U8 B b bs w' := by
 rcases h with ⟨h1, v, h2, h3, h4⟩ | ⟨h1, v, h2, h3, h4⟩
 · exact .inl ⟨h1, v, (hb.block b (Array.getElem?_eq_some_iff.1 h2).1).trans h2, own_below h3 hb, h4⟩
 · exact .inr ⟨h1, v, (hb.block b (Array.getElem?_eq_some_iff.1 h2).1).trans h2, own_below h3 hb, h4⟩
theorem isb_blk {T B b k T' : Nat} {bs : List Value} {cs : Array Value} {w : World} (h : Lib.IsBuilder T U8 B b bs w) (hk : Blk T' k cs w) (hT : T' ≠ T) : k ≠ b := by
 rintro rfl
 unfold Blk at hk
 rcases h with ⟨h1, v, h2, h3, h4⟩ | ⟨h1, v, h2, h3, h4⟩ <;> (rw [hk] at h2; cases h2; exact hT rfl)
set_option maxRecDepth 100000 in
set_option maxHeartbeats 1600000 in
theorem put_any (B b k : Nat) (acc : Bytes) (ws : List Bytes) (n : Nat) (hn : ws.length = n) (cs : Array Value) (hcs : cs = (ws.map strV).toArray) (w : World) (h : Lib.IsBuilder OT U8 B b (Lib.byteCells acc) w) (hlen : acc.length + ws.flatten.length ≤ 140737488355328) (hBw : B ≤ w.heap.size)
  (hk : Blk 9 k cs w) (hn3 : n ≤ 1000) :
  Calls Tryz.prog 41 #[.pointer (some ⟨b, 0, none⟩), .slice (some ⟨k, 0, none⟩) n n] w (Wr B b acc ws.flatten w) := by
 have H := Lib.hid h
 have HK := Lib.hid hk
 have HN := Lib.hid hn
 have HC := Lib.hid hcs
 have hkb := isb_blk h hk (by decide)
 have hkl := hk.lt
 clear h hk hn hcs
 go_enter Tryz.func41, Tryz.ntmps41
 go_wp2_with fail
 go_loopw [8] (fun y wr => ∃ j : Nat, y = .int .i64 (j : Int) ∧ j ≤ n ∧ Hid (Lib.IsBuilder OT U8 B b (Lib.byteCells (acc ++ (ws.take j).flatten)) wr) ∧ Hid (Below B w wr) ∧ Hid (KeepT b U8 w wr)) (fun y _ => n - (intOf y).toNat)
 case atStart => exact ⟨0, rfl, Nat.zero_le _, Lib.hid (by rw [List.take_zero]; simpa using H.out), Lib.hid (Below.refl _ _), Lib.hid (KeepT.refl _ _ _)⟩
 case round =>
  obtain ⟨j, rfl, hj, hI, hb, hkp⟩ := hrel
  by_cases hjn : j < n
  · have hdec : decide ((j : Int) < (n : Int)) = true := by simpa using hjn
    have hjw : IntKind.i64.wrap ((j : Int) + 1) = (j : Int) + 1 := IntWalk.i64_in _ (by omega)
    have hx := List.getElem?_eq_getElem (show j < ws.length by rw [HN.out]; exact hjn)
    obtain ⟨x, hxx⟩ : ∃ x, ws[j]'(by rw [HN.out]; exact hjn) = x := ⟨_, rfl⟩
    rw [hxx] at hx
    have hk2 := hkp.out.blk HK.out hkb (by decide)
    have c0 : wr.cell? ⟨k, j, none⟩ = some (.string ⟨x.toArray⟩) := hk2.c j _ (by
     rw [HC.out, List.getElem?_toArray, List.getElem?_map, hx]; rfl)
    have hl2 := hk2.lt
    have htk : ws.take (j + 1) = ws.take j ++ [x] := by rw [List.take_add_one, hx]; rfl
    have hfl : (ws.take (j + 1)).flatten = (ws.take j).flatten ++ x := by rw [htk]; simp
    have hle : (ws.take (j + 1)).flatten.length ≤ ws.flatten.length := by
     conv => rhs; rw [← List.take_append_drop (j + 1) ws, List.flatten_append, List.length_append]
     omega
    rw [hfl, List.length_append] at hle
    have HW := Lib.hid (write_keep lies_out B b (acc ++ (ws.take j).flatten) x wr hI.out (by rw [List.length_append]; omega) (Nat.le_trans hBw hb.out.size))
    have HFL := Lib.hid hfl
    clear hx hk2 htk hfl hle hxx
    go_wp2_with fail
    refine HW.out.mono ?_; rintro e w1 ⟨⟨z, rfl⟩, hI1, hb1, hk1⟩
    have HI1 : Hid (Lib.IsBuilder OT U8 B b (Lib.byteCells (acc ++ (ws.take (j + 1)).flatten)) w1) := Lib.hid (by rw [HFL.out, ← List.append_assoc]; exact hI1)
    have HB1 := Lib.hid (hb.out.trans hb1)
    have HK1 := Lib.hid (hkp.out.trans hk1)
    clear hI1 hb1 hk1
    go_wp2_with fail
    exact ⟨⟨j + 1, by simp, by omega, HI1, HB1, HK1⟩, by simp only [intOf]; omega⟩
  · obtain rfl : j = n := by omega
    have hdec : decide ((j : Int) < (j : Int)) = false := by simp
    have HA : Hid (Lib.IsBuilder OT U8 B b (Lib.byteCells (acc ++ ws.flatten)) wr) := Lib.hid (by have := hI.out; rwa [List.take_of_length_le (by rw [HN.out]; exact Nat.le_refl _)] at this)
    clear hI
    go_wp2_with fail
    go_end0
    exact ⟨rfl, HA.out, hb.out, hkp.out⟩
section
variable {B b : Nat} {acc : Bytes} {w : World}
theorem wr_alloc {t : Bytes} {o : Obj} {e : Ending} {w' : World} (hBw : B ≤ w.heap.size) (h : Wr B b acc t (w.alloc o) e w') : Wr B b acc t w e w' :=
 ⟨h.1, h.2.1, ((alloc_bel w o).mono hBw).trans h.2.2.1, (KeepT.of (alloc_bel w o)).trans h.2.2.2⟩
theorem put1 (s : Bytes) (h : Lib.IsBuilder OT U8 B b (Lib.byteCells acc) w) (hlen : acc.length + s.length ≤ 140737488355328) (hBw : B ≤ w.heap.size) :
  Calls Tryz.prog 41 #[.pointer (some ⟨b, 0, none⟩), .slice (some ⟨w.heap.size, 0, none⟩) 1 1] (w.alloc (.cells #[.string ⟨s.toArray⟩] 9)) (Wr B b acc s w) := by
 have H := put_any B b w.heap.size acc [s] 1 rfl #[.string ⟨s.toArray⟩] rfl (w.alloc (.cells #[.string ⟨s.toArray⟩] 9)) (isb_below h (alloc_bel _ _)) (by simpa using hlen) (by simp; omega) (Blk.made w) (by omega)
 refine H.mono (fun e w' h => ?_)
 have := wr_alloc hBw h
 simpa using this
theorem put2 (s t : Bytes) (h : Lib.IsBuilder OT U8 B b (Lib.byteCells acc) w) (hlen : acc.length + (s ++ t).length ≤ 140737488355328) (hBw : B ≤ w.heap.size) :
  Calls Tryz.prog 41 #[.pointer (some ⟨b, 0, none⟩), .slice (some ⟨w.heap.size, 0, none⟩) 2 2] (w.alloc (.cells #[.string ⟨s.toArray⟩, .string ⟨t.toArray⟩] 9)) (Wr B b acc (s ++ t) w) := by
 have H := put_any B b w.heap.size acc [s, t] 2 rfl #[.string ⟨s.toArray⟩, .string ⟨t.toArray⟩] rfl (w.alloc (.cells #[.string ⟨s.toArray⟩, .string ⟨t.toArray⟩] 9)) (isb_below h (alloc_bel _ _)) (by simpa using hlen) (by simp; omega) (Blk.made w) (by omega)
 refine H.mono (fun e w' h => ?_)
 have := wr_alloc hBw h
 simpa using this
theorem put3 (s t u : Bytes) (h : Lib.IsBuilder OT U8 B b (Lib.byteCells acc) w) (hlen : acc.length + (s ++ (t ++ u)).length ≤ 140737488355328) (hBw : B ≤ w.heap.size) :
  Calls Tryz.prog 41 #[.pointer (some ⟨b, 0, none⟩), .slice (some ⟨w.heap.size, 0, none⟩) 3 3] (w.alloc (.cells #[.string ⟨s.toArray⟩, .string ⟨t.toArray⟩, .string ⟨u.toArray⟩] 9)) (Wr B b acc (s ++ (t ++ u)) w) := by
 have H := put_any B b w.heap.size acc [s, t, u] 3 rfl #[.string ⟨s.toArray⟩, .string ⟨t.toArray⟩, .string ⟨u.toArray⟩] rfl (w.alloc (.cells #[.string ⟨s.toArray⟩, .string ⟨t.toArray⟩, .string ⟨u.toArray⟩] 9)) (isb_below h (alloc_bel _ _)) (by simpa using hlen) (by simp; omega) (Blk.made w) (by omega)
 refine H.mono (fun e w' h => ?_)
 have := wr_alloc hBw h
 simpa using this
end
end Tr
end Go.Proofs.YtbdgoimbddlcoaaGreatDoor
