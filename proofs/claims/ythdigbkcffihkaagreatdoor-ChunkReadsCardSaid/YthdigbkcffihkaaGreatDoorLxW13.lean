/- Package lex, the walk, 13: symbol whole; number. -/
import Derived.Test.YthdigbkcffihkaaGreatDoorLxW10
import Derived.Test.YthdigbkcffihkaaGreatDoorLxW11
import Derived.Test.YthdigbkcffihkaaGreatDoorLxW12
import Derived.Test.YthdigbkcffihkaaGreatDoorLxP
set_option linter.unusedVariables false
namespace Go.Proofs.YthdigbkcffihkaaGreatDoor
open Go.RowKit
namespace Lx
variable {b at_ : Nat} {s : ByteArray} {w : World}
theorem symbol_any (hs : s.size ≤ 140737488351232) (hat : at_ + 1 ≤ s.size) (hrd : Rd RT b s (at_ + 1) w) :
    Calls Tryz.prog 104 #[.pointer (some ⟨b, 0, none⟩), .int .i64 (at_ : Int)] w (Toked b s at_ (symR (s.data.toList.drop (at_ + 1))) w) := by
  by_cases h40 : hd (s.data.toList.drop (at_ + 1)) 0 = 40
  · exact symbol_paren hs hat hrd h40
  by_cases h39 : hd (s.data.toList.drop (at_ + 1)) 0 = 39
  · exact symbol_quote hs hat hrd h39
  cases hl : letter (hd (s.data.toList.drop (at_ + 1)) 0)
  · exact symbol_oper hs hat hrd h40 h39 hl
  · by_cases hk : kwL (s.data.toList.drop (at_ + 1)) = 0
    · exact symbol_name hs hat hrd h40 h39 hl hk
    · exact symbol_kw hs hat hrd h40 h39 hl hk
theorem Rd.back {T b at_ : Nat} {s : ByteArray} {w w' : World} (h : Rd T b s at_ w) (hb : Below w.heap.size w w') : Rd T b s at_ w' := h.below hb h.lt
theorem ErrVar.mv {b : Nat} {w w' : World} (h : ErrVar w) (hm : Mv b w w') (hb : 4 ≠ b) : ErrVar w' := by
  obtain ⟨tp, p, hv⟩ := h
  refine ⟨tp, p, ?_⟩
  have hg : Tryz.prog.globalNamed "strconv.ErrRange" = some 4 := by kernel_rfl
  have hlt : 4 < w.heap.size := by
    rcases Nat.lt_or_ge 4 w.heap.size with h | h
    · exact h
    · exfalso
      unfold World.var? at hv
      simp only [hg, Option.bind_some, Array.getElem?_eq_none h] at hv
      cases hv
  unfold World.var? at hv ⊢
  simp only [hg, Option.bind_some] at hv ⊢
  rw [hm.block _ hlt hb]; exact hv
/-- What number makes of digits. -/
def numR (r : Bytes) : Except Err (Tok × Nat) :=
  if Sm.pe (r.takeWhile digit) = 0 then .ok (⟨3, [], Sm.pv (r.takeWhile digit), 0⟩, (r.takeWhile digit).length) else .error (0, Sm.pe (r.takeWhile digit))
theorem Tk.set2 {T k : Nat} {kd n a : Int} {wd : ByteArray} {w : World} (h : Tk T k kd wd n a w) (x : Int) : Tk T k kd wd x a (w.setCell ⟨k, 2, none⟩ (.int .i64 x)) := by
  unfold Tk at h ⊢
  simp [World.setCell, Array.getElem?_modify, h]
theorem Tk.set0 {T k : Nat} {kd n a : Int} {wd : ByteArray} {w : World} (h : Tk T k kd wd n a w) (x : Int) : Tk T k x wd n a (w.setCell ⟨k, 0, none⟩ (.int .i64 x)) := by
  unfold Tk at h ⊢
  simp [World.setCell, Array.getElem?_modify, h]
set_option maxHeartbeats 8000000 in
theorem number_any (hs : s.size ≤ 140737488351232) (hat : at_ ≤ s.size) (hrd : Rd RT b s at_ w) (hv : ErrVar w) (hvb : 4 ≠ b) :
    Calls Tryz.prog 101 #[.pointer (some ⟨b, 0, none⟩)] w (Toked b s at_ (numR (s.data.toList.drop at_)) w) := by
  have H2 := tw_fit digit s at_ hat
  have H3 := fun (k : Nat) (h : k < s.size) (h1 : at_ ≤ k) (h2 : k < at_ + ((s.data.toList.drop at_).takeWhile digit).length) => tw_in digit s at_ k h h1 h2
  have H4 := fun (h : at_ + ((s.data.toList.drop at_).takeWhile digit).length < s.size) => tw_out digit s at_ h
  have HR := fun (v : World) (hr : Rd RT b s at_ v) => run_digit b at_ _ s v hs (Nat.le_add_right _ _) H2 H3 H4 hr
  have hxw := ext_word s at_ ((s.data.toList.drop at_).takeWhile digit).length H2
  have htk : (s.data.toList.drop at_).take ((s.data.toList.drop at_).takeWhile digit).length = (s.data.toList.drop at_).takeWhile digit := (List.prefix_iff_eq_take.1 (List.takeWhile_prefix _)).symm
  rw [htk] at hxw
  clear H3 H4 htk
  have hE0 : numR (s.data.toList.drop at_) = if Sm.pe ((s.data.toList.drop at_).takeWhile digit) = 0 then .ok (⟨3, [], Sm.pv ((s.data.toList.drop at_).takeWhile digit), 0⟩, ((s.data.toList.drop at_).takeWhile digit).length) else .error (0, Sm.pe ((s.data.toList.drop at_).takeWhile digit)) := rfl
  obtain ⟨ds, hds⟩ : ∃ ds, (s.data.toList.drop at_).takeWhile digit = ds := ⟨_, rfl⟩
  rw [hds] at H2 HR hxw hE0
  clear hds
  obtain ⟨x, hx⟩ : ∃ x, s.extract at_ (at_ + ds.length) = x := ⟨_, rfl⟩
  rw [hx] at HR hxw
  have hxs : x.size ≤ 281474976710656 := by rw [← hx, ByteArray.size_extract]; omega
  have HP := fun (v : World) (h : ErrVar v) => parse_any x v hxs h
  have hxl : x.data.toList = ds := by rw [hxw]
  rw [hxl] at HP
  clear hxl hx
  obtain ⟨pe, hpe⟩ : ∃ n, Sm.pe ds = n := ⟨_, rfl⟩
  obtain ⟨pv, hpv⟩ : ∃ n, Sm.pv ds = n := ⟨_, rfl⟩
  rw [hpe, hpv] at HP hE0
  rw [hE0]
  clear hE0 hxw hpe hpv
  obtain ⟨z, hz⟩ : ∃ z, at_ + ds.length = z := ⟨_, rfl⟩
  rw [hz] at HR H2
  have HR := Lib.hid HR
  have HP := Lib.hid HP
  have hbl := hrd.lt
  have c1 := hrd.c1
  have HV := Lib.hid hv; clear hv
  by_cases h0 : pe = 0
  · subst h0
    rw [if_pos rfl]
    go_enter Tryz.func101, Tryz.ntmps101
    go_wp2_with fail
    have hS := St.made hrd 3 (at_ : Int)
    obtain ⟨W, hW⟩ : ∃ W, (w.alloc (Obj.cells #[.int .i64 0, .string ⟨#[]⟩, .int .i64 0, .int .i64 0] TT)).alloc (Obj.cells #[.int .i64 3, .string ⟨#[]⟩, .int .i64 0, .int .i64 (at_ : Int)] TT) = W := ⟨_, rfl⟩
    rw [hW] at hS ⊢
    clear hW c1
    refine (HR.out _ hS.rd).mono ?_; rintro e w3 ⟨rfl, hr3, hm3⟩
    have hS := hS.call hbl hr3 hm3
    go_wp2_with fail
    refine (HP.out _ (HV.out.mv hS.mv hvb)).mono ?_; rintro e w4 ⟨rfl, hb4⟩
    have hS := hS.call hbl (hS.rd.back hb4) (Mv.below hb4)
    have e0 := hS.t0.c0
    have e1 := hS.t0.c1
    have e2 := hS.t0.c2
    have e3 := hS.t0.c3
    have ef := hS.t0.fz
    have g0 := hS.t1.c0
    have g1 := hS.t1.c1
    have g2 := hS.t1.c2
    have g3 := hS.t1.c3
    have gf := hS.t1.fz
    have hne5 : ¬ w.heap.size = w.heap.size + 1 := by omega
    have hne6 : ¬ w.heap.size + 1 = w.heap.size := by omega
    go_wp2_with fail
    refine bodyPost_ret (v := .agg #[.int .i64 3, .string ⟨#[]⟩, .int .i64 pv, .int .i64 (at_ : Int)]) (by simp [results, Tryz.results101, go_sem, e0, e1, e2, e3]) rfl ?_
    have hR := hS.rd.far (p := ⟨w.heap.size + 1, 2, none⟩) (show b ≠ w.heap.size + 1 by omega) (.int .i64 pv)
    have hM := hS.mv.new (p := ⟨w.heap.size + 1, 2, none⟩) (show w.heap.size ≤ w.heap.size + 1 by omega) (.int .i64 pv)
    obtain ⟨f1, f2⟩ := fin4 hR hM hbl (.int .i64 3) (.string ⟨#[]⟩) (.int .i64 pv) (.int .i64 (at_ : Int))
    exact ⟨rfl, by rw [hz]; exact f1, f2⟩
  · rw [if_neg h0]
    have hb0 : (pe == 0) = false := by simpa using h0
    have hb1 : (pe != 0) = true := by simpa using h0
    go_enter Tryz.func101, Tryz.ntmps101
    go_wp2_with fail
    have hS := St.made hrd 3 (at_ : Int)
    obtain ⟨W, hW⟩ : ∃ W, (w.alloc (Obj.cells #[.int .i64 0, .string ⟨#[]⟩, .int .i64 0, .int .i64 0] TT)).alloc (Obj.cells #[.int .i64 3, .string ⟨#[]⟩, .int .i64 0, .int .i64 (at_ : Int)] TT) = W := ⟨_, rfl⟩
    rw [hW] at hS ⊢
    clear hW c1
    refine (HR.out _ hS.rd).mono ?_; rintro e w3 ⟨rfl, hr3, hm3⟩
    have hS := hS.call hbl hr3 hm3
    go_wp2_with fail
    refine (HP.out _ (HV.out.mv hS.mv hvb)).mono ?_; rintro e w4 ⟨rfl, hb4⟩
    have hS := hS.call hbl (hS.rd.back hb4) (Mv.below hb4)
    have g3 := hS.t1.c3
    go_wp2_with fail
    refine (stop_any _ pe _).mono ?_; rintro e w' ⟨rfl, rfl⟩
    go_wp2
    exact ⟨rfl, rfl, hS.mv⟩
end Lx
end Go.Proofs.YthdigbkcffihkaaGreatDoor
