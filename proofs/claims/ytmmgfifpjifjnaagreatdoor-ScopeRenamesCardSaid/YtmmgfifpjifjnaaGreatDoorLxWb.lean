/- Package lex, the walk, 9: symbol (wip/gen/gen_sym.py prints this). · Package lex, the walk, 10: symbol's other ways (wip/gen/gen_sym.py prints this). · Package lex, the walk, 11: symbol's word (wip/gen/gen_sym.py prints this). · Package lex, the walk, 12: symbol's name, operator (wip/gen/gen_sym.py prints this). · Package small's Parse, by the library's contracts (XSmParse's text, for a seat that has the lexer). · Package lex, the walk, 13: symbol whole; number. · Package lex, the walk, 15: caught; Next's deferred closure. · Package lex, the walk: Arity. -/
import Derived.Test.YtmmgfifpjifjnaaGreatDoorLxWa
import Derived.WalkSmall
import Derived.Defers
import Derived.Recover
import Derived.OneCell
import Derived.RegionTactic
set_option linter.unusedVariables false
namespace Go.Proofs.YtmmgfifpjifjnaaGreatDoor
open Go.RowKit
namespace Lx
def tokV (a : Nat) (t : Tok) : Value := .agg #[.int .i64 (t.kind : Int), .string ⟨t.word.toArray⟩, .int .i64 t.num, .int .i64 ((a + t.at_ : Nat) : Int)]
def Toked (b : Nat) (s : ByteArray) (a : Nat) (x : Except Err (Tok × Nat)) (w : World) (e : Ending) (w' : World) : Prop :=
 match x with
 | .error (p, n) => Fell b ((a + p : Nat) : Int) n w e w'
 | .ok (t, n) => Turn RT b s (a + n) (tokV a t) w e w'
abbrev TT : Nat := 122
structure St (b : Nat) (s : ByteArray) (z : Nat) (k a : Int) (x : ByteArray) (w W : World) : Prop where
 rd : Rd RT b s z W
 mv : Mv b w W
 t0 : Tk TT w.heap.size 0 ⟨#[]⟩ 0 0 W
 t1 : Tk TT (w.heap.size + 1) k x 0 a W
section
variable {b z z' : Nat} {s x : ByteArray} {k a : Int} {w W W' : World}
theorem St.call (h : St b s z k a x w W) (hb : b < w.heap.size) (hr : Rd RT b s z' W') (hm : Mv b W W') : St b s z' k a x w W' :=
 ⟨hr, h.mv.trans hm, h.t0.mv hm (by omega), h.t1.mv hm (by omega)⟩
theorem St.drewN (h : St b s z k a x w W) (n : Nat) : St b s z k a x w (W.drewN n) := ⟨h.rd.drewN n, h.mv.drewN n, h.t0.drewN n, h.t1.drewN n⟩
theorem St.word (h : St b s z k a x w W) (hb : b < w.heap.size) (y : ByteArray) : St b s z k a y w (W.setCell ⟨w.heap.size + 1, 1, none⟩ (.string y)) :=
 ⟨h.rd.far (show b ≠ w.heap.size + 1 by omega) _, h.mv.new (show w.heap.size ≤ w.heap.size + 1 by omega) _, h.t0.far (show w.heap.size ≠ w.heap.size + 1 by omega) _, h.t1.set1 y⟩
theorem fin4 (hr : Rd RT b s z W) (hm : Mv b w W) (hb : b < w.heap.size) (u0 u1 u2 u3 : Value) :
  Rd RT b s z ((((W.setCell ⟨w.heap.size, 0, none⟩ u0).setCell ⟨w.heap.size, 1, none⟩ u1).setCell ⟨w.heap.size, 2, none⟩ u2).setCell ⟨w.heap.size, 3, none⟩ u3) ∧
  Mv b w ((((W.setCell ⟨w.heap.size, 0, none⟩ u0).setCell ⟨w.heap.size, 1, none⟩ u1).setCell ⟨w.heap.size, 2, none⟩ u2).setCell ⟨w.heap.size, 3, none⟩ u3) :=
 have hne : b ≠ w.heap.size := by omega
 ⟨(((hr.far hne _).far hne _).far hne _).far hne _,
  (((hm.new (Nat.le_refl _) _).new (Nat.le_refl _) _).new (Nat.le_refl _) _).new (Nat.le_refl _) _⟩
theorem St.made (h : Rd RT b s z w) (k a : Int) : St b s z k a ⟨#[]⟩ w ((w.alloc (Obj.cells #[.int .i64 0, .string ⟨#[]⟩, .int .i64 0, .int .i64 0] TT)).alloc (Obj.cells #[.int .i64 k, .string ⟨#[]⟩, .int .i64 0, .int .i64 a] TT)) :=
 ⟨(h.alloc _).alloc _, ((Mv.refl _ _).alloc _).alloc _, (Tk.made w).alloc _, by have := Tk.made (T := TT) (kd := k) (wd := ⟨#[]⟩) (n := 0) (a := a) (w.alloc (Obj.cells #[.int .i64 0, .string ⟨#[]⟩, .int .i64 0, .int .i64 0] TT)); simpa using this⟩
end
theorem ext_size (s : ByteArray) (a z : Nat) (h1 : a ≤ z) (h2 : z ≤ s.size) : (s.extract a z).size = z - a := by
 rw [ByteArray.size_extract]; omega
theorem ext_word (s : ByteArray) (a n : Nat) (h2 : a + n ≤ s.size) : s.extract a (a + n) = ⟨((s.data.toList.drop a).take n).toArray⟩ := by
 apply ByteArray.ext
 apply Array.toList_inj.1
 rw [ext_list, List.take_drop]
theorem hd_in {s : ByteArray} {a : Nat} {c : UInt8} (h : hd (s.data.toList.drop a) 0 = c) (hc : c ≠ 0) : a < s.size := by
 rcases Nat.lt_or_ge a s.size with h' | h'
 · exact h'
 exact absurd ((hd_past s a 0 h').symm.trans h) (fun e => hc e.symm)
variable {b at_ : Nat} {s : ByteArray} {w : World}
end Lx
end Go.Proofs.YtmmgfifpjifjnaaGreatDoor
namespace Go.Proofs.YtmmgfifpjifjnaaGreatDoor
open Go.RowKit
namespace Lx
variable {b at_ : Nat} {s : ByteArray} {w : World}
end Lx
end Go.Proofs.YtmmgfifpjifjnaaGreatDoor
namespace Go.Proofs.YtmmgfifpjifjnaaGreatDoor
open Go.RowKit
namespace Lx
variable {b at_ : Nat} {s : ByteArray} {w : World}
end Lx
end Go.Proofs.YtmmgfifpjifjnaaGreatDoor
namespace Go.Proofs.YtmmgfifpjifjnaaGreatDoor
open Go.RowKit
namespace Lx
variable {b at_ : Nat} {s : ByteArray} {w : World}
end Lx
end Go.Proofs.YtmmgfifpjifjnaaGreatDoor
namespace Go.Proofs.YtmmgfifpjifjnaaGreatDoor
open Go.RowKit
namespace Lx
open Sm
def Back (v : Value) (w : World) (e : Ending) (w' : World) : Prop := e = .returned v ∧ Below w.heap.size w w'
def ErrVar (w : World) : Prop := ∃ tp p, w.var? Tryz.prog "strconv.ErrRange" = some #[.iface tp p]
theorem ErrVar.below {w w' : World} (h : ErrVar w) (hb : Below w.heap.size w w') : ErrVar w' := by
 obtain ⟨tp, p, hv⟩ := h
 refine ⟨tp, p, ?_⟩
 have hg : Tryz.prog.globalNamed "strconv.ErrRange" = some 2 := by kernel_rfl
 refine var?_below hb hg ?_ hv
 rcases Nat.lt_or_ge 2 w.heap.size with h | h
 · exact h
 exfalso
 unfold World.var? at hv
 simp only [hg, Option.bind_some, Array.getElem?_eq_none h] at hv
 cases hv
theorem trim_call (s : List UInt8) (w : World) (hs : s.length ≤ 9223372036854775807) :
  Calls Tryz.prog 159 #[.string ⟨s.toArray⟩, .string ⟨#[48, 49, 50, 51, 52, 53, 54, 55, 56, 57]⟩] w (Back (.string ⟨(Lib.trimS s [48, 49, 50, 51, 52, 53, 54, 55, 56, 57]).toArray⟩) w) :=
 (Any.strings_Trim_laid Tryz.lays160 (by kernel_rfl) ⟨s.toArray⟩ ⟨#[48, 49, 50, 51, 52, 53, 54, 55, 56, 57]⟩ w (by simpa [ByteArray.size] using hs) (by decide) (ascii_of_all (by decide)))
theorem prefix_call (s : ByteArray) (w : World) :
  Calls Tryz.prog 158 #[.string s, .string ⟨#[45]⟩] w (Done (.string ⟨(digs s.data.toList).toArray⟩) w) :=
 (Tryz.strings_TrimPrefix s ⟨#[45]⟩ w).mono fun _ _ ⟨he, hw⟩ => ⟨he, hw.symm⟩
theorem digs_le (l : List UInt8) : (digs l).length ≤ l.length := by
 rcases digs_cases l with ⟨r, e1, e2, _⟩ | ⟨e2, _⟩
 · rw [e2, e1]; simp
 rw [e2]; exact Nat.le_refl _
theorem bytesWorld_below (w : World) (e : TypeId) (t : ByteArray) : Below w.heap.size w (Lib.bytesWorld w e t) := by
 have h1 : Below w.heap.size w (w.drew.alloc (.cells (Lib.bytesCells w e t) e)) := ((Below.refl _ _).drew).alloc (Nat.le_refl _) _
 refine h1.trans ?_
 unfold Lib.bytesWorld World.freeze
 rw [if_neg (by decide)]
 exact ⟨rfl, rfl, rfl, by simp, fun k hk => by
  rw [Array.getElem?_modify, if_neg (by show ¬ w.heap.size = k; omega)]⟩
set_option maxHeartbeats 1000000 in
theorem parse_any (s : ByteArray) (w : World) (hs : s.size ≤ 281474976710656) (hv : ErrVar w) :
  Calls Tryz.prog 146 #[.string s] w (Back (.tuple #[.int .i64 (pv s.data.toList), .int .i64 (pe s.data.toList)]) w) := by
 obtain ⟨d, hd⟩ : ∃ d, digs s.data.toList = d := ⟨_, rfl⟩
 have hdl : d.length ≤ 9223372036854775807 := by
  rw [← hd]; have := digs_le s.data.toList; have : s.data.toList.length = s.size := rfl; omega
 by_cases h0 : d = []
 · have e1 : pe s.data.toList = 3 := by unfold pe okd; rw [hd, h0]; rfl
   have e2 : pv s.data.toList = 0 := by unfold pv; rw [e1]; rfl
   rw [e1, e2]
   subst h0
   have HD := Lib.hid hd; clear hd e1 e2
   go_enter Tryz.func146, Tryz.ntmps146
   go_wp2_with fail
   refine (prefix_call _ _).mono ?_; rintro e w' ⟨rfl, rfl⟩
   rw [HD.out]
   go_wp2_with fail
   go_ret2
   exact ⟨rfl, Below.refl _ _⟩
 have h0b : d.isEmpty = false := by simpa using h0
 by_cases hall : d.all isd = true
 · have hok : okd s.data.toList = true := by unfold okd; rw [hd]; simp [h0, hall]
   have ht : Lib.trimS d [48, 49, 50, 51, 52, 53, 54, 55, 56, 57] = [] := (trim_all d).2 hall
   have HT := Lib.hid ht
   have HD := Lib.hid hd
   clear ht hd hall
   rcases parse_num s.data.toList hok with ⟨hp, p1, p2⟩ | ⟨hp, hno⟩
   · have HP := Lib.hid hp; clear hp
     by_cases hin : -4611686018427387904 ≤ num s.data.toList ∧ num s.data.toList ≤ 4611686018427387903
     · have e1 : pe s.data.toList = 0 := by unfold pe; rw [if_pos hok, if_pos hin]
       have e2 : pv s.data.toList = num s.data.toList := by unfold pv; rw [if_pos e1]
       rw [e1, e2]
       obtain ⟨v, hv'⟩ : ∃ v, num s.data.toList = v := ⟨_, rfl⟩
       rw [hv'] at HP hin p1 p2 ⊢
       obtain ⟨i1, i2⟩ := hin
       clear e1 e2 hok hv'
       go_enter Tryz.func146, Tryz.ntmps146
       go_wp2_with fail
       refine (prefix_call _ _).mono ?_; rintro e w' ⟨rfl, rfl⟩
       rw [HD.out]
       go_wp2_with fail
       refine (trim_call _ _ hdl).mono ?_; rintro e w1 ⟨rfl, hb1⟩
       rw [HT.out]
       go_wp2_with fail
       refine (Tryz.strconv_ParseInt_10_at64_ok s (by omega) v HP.out _).mono ?_; rintro e w2 ⟨rfl, hw2⟩
       have hb2 : Below w1.heap.size w1 w2 := by
        rcases hw2 with rfl | ⟨t, rfl⟩
        · exact Below.refl _ _
        exact bytesWorld_below _ _ _
       clear hw2
       go_wp2_with fail
       go_ret2
       exact ⟨rfl, hb1.trans (hb2.mono hb1.size)⟩
     have e1 : pe s.data.toList = 9 := by unfold pe; rw [if_pos hok, if_neg hin]
     have e2 : pv s.data.toList = 0 := by unfold pv; rw [e1]; rfl
     rw [e1, e2]
     obtain ⟨v, hv'⟩ : ∃ v, num s.data.toList = v := ⟨_, rfl⟩
     rw [hv'] at HP hin p1 p2
     clear e1 e2 hok hv'
     by_cases hlo : v < -4611686018427387904
     all_goals
      have hhi : v < -4611686018427387904 ∨ 4611686018427387903 < v := by omega
      clear hin
      go_enter Tryz.func146, Tryz.ntmps146
      go_wp2_with fail
      refine (prefix_call _ _).mono ?_; rintro e w' ⟨rfl, rfl⟩
      rw [HD.out]
      go_wp2_with fail
      refine (trim_call _ _ hdl).mono ?_; rintro e w1 ⟨rfl, hb1⟩
      rw [HT.out]
      go_wp2_with fail
      refine (Tryz.strconv_ParseInt_10_at64_ok s (by omega) v HP.out _).mono ?_; rintro e w2 ⟨rfl, hw2⟩
      have hb2 : Below w1.heap.size w1 w2 := by
       rcases hw2 with rfl | ⟨t, rfl⟩
       · exact Below.refl _ _
       exact bytesWorld_below _ _ _
      clear hw2
      go_wp2_with fail
      go_ret2
      exact ⟨rfl, hb1.trans (hb2.mono hb1.size)⟩
   have e1 : pe s.data.toList = 9 := by unfold pe; rw [if_pos hok]; exact if_neg hno
   have e2 : pv s.data.toList = 0 := by unfold pv; rw [e1]; rfl
   rw [e1, e2]
   have HP := Lib.hid hp
   have HV := Lib.hid hv
   clear e1 e2 hok hno hp hv
   go_enter Tryz.func146, Tryz.ntmps146
   go_wp2_with fail
   refine (prefix_call _ _).mono ?_; rintro e w' ⟨rfl, rfl⟩
   rw [HD.out]
   go_wp2_with fail
   refine (trim_call _ _ hdl).mono ?_; rintro e w1 ⟨rfl, hb1⟩
   rw [HT.out]
   obtain ⟨tp, p, hv1⟩ := HV.out.below hb1
   have HV1 := Lib.hid hv1; clear hv1
   go_wp2_with fail
   refine (Tryz.strconv_ParseInt_10_at64_range_var s hs HP.out tp p _ HV1.out).mono ?_; rintro e w2 ⟨N, rfl, _, _, hb2⟩
   go_wp2_with fail
   go_ret2
   exact ⟨rfl, hb1.trans (hb2.mono hb1.size)⟩
 have e1 : pe s.data.toList = 3 := by unfold pe okd; rw [hd]; simp [hall]
 have e2 : pv s.data.toList = 0 := by unfold pv; rw [e1]; rfl
 rw [e1, e2]
 have ht : ¬ Lib.trimS d [48, 49, 50, 51, 52, 53, 54, 55, 56, 57] = [] := fun h => hall ((trim_all d).1 h)
 have HD := Lib.hid hd
 clear hd e1 e2 hall
 obtain ⟨t, htt⟩ : ∃ t, Lib.trimS d [48, 49, 50, 51, 52, 53, 54, 55, 56, 57] = t := ⟨_, rfl⟩
 rw [htt] at ht
 have htb : t.isEmpty = false := by simpa using ht
 have HT := Lib.hid htt; clear htt
 go_enter Tryz.func146, Tryz.ntmps146
 go_wp2_with fail
 refine (prefix_call _ _).mono ?_; rintro e w' ⟨rfl, rfl⟩
 rw [HD.out]
 go_wp2_with fail
 refine (trim_call _ _ hdl).mono ?_; rintro e w1 ⟨rfl, hb1⟩
 rw [HT.out]
 go_wp2_with fail
 go_ret2
 exact ⟨rfl, hb1⟩
end Lx
end Go.Proofs.YtmmgfifpjifjnaaGreatDoor
namespace Go.Proofs.YtmmgfifpjifjnaaGreatDoor
open Go.RowKit
namespace Lx
variable {b at_ : Nat} {s : ByteArray} {w : World}
theorem Rd.back {T b at_ : Nat} {s : ByteArray} {w w' : World} (h : Rd T b s at_ w) (hb : Below w.heap.size w w') : Rd T b s at_ w' := h.below hb h.lt
theorem ErrVar.mv {b : Nat} {w w' : World} (h : ErrVar w) (hm : Mv b w w') (hb : 2 ≠ b) : ErrVar w' := by
 obtain ⟨tp, p, hv⟩ := h
 refine ⟨tp, p, ?_⟩
 have hg : Tryz.prog.globalNamed "strconv.ErrRange" = some 2 := by kernel_rfl
 have hlt : 2 < w.heap.size := by
  rcases Nat.lt_or_ge 2 w.heap.size with h | h
  · exact h
  exfalso
  unfold World.var? at hv
  simp only [hg, Option.bind_some, Array.getElem?_eq_none h] at hv
  cases hv
 unfold World.var? at hv ⊢
 simp only [hg, Option.bind_some] at hv ⊢
 rw [hm.block _ hlt hb]; exact hv
def numR (r : Bytes) : Except Err (Tok × Nat) :=
 if Sm.pe (r.takeWhile digit) = 0 then .ok (⟨3, [], Sm.pv (r.takeWhile digit), 0⟩, (r.takeWhile digit).length) else .error (0, Sm.pe (r.takeWhile digit))
theorem Tk.set2 {T k : Nat} {kd n a : Int} {wd : ByteArray} {w : World} (h : Tk T k kd wd n a w) (x : Int) : Tk T k kd wd x a (w.setCell ⟨k, 2, none⟩ (.int .i64 x)) := by
 unfold Tk at h ⊢
 simp [World.setCell, Array.getElem?_modify, h]
theorem Tk.set0 {T k : Nat} {kd n a : Int} {wd : ByteArray} {w : World} (h : Tk T k kd wd n a w) (x : Int) : Tk T k x wd n a (w.setCell ⟨k, 0, none⟩ (.int .i64 x)) := by
 unfold Tk at h ⊢
 simp [World.setCell, Array.getElem?_modify, h]
set_option maxHeartbeats 8000000 in
theorem number_any (hs : s.size ≤ 140737488351232) (hat : at_ ≤ s.size) (hrd : Rd RT b s at_ w) (hv : ErrVar w) (hvb : 2 ≠ b) :
  Calls Tryz.prog 136 #[.pointer (some ⟨b, 0, none⟩)] w (Toked b s at_ (numR (s.data.toList.drop at_)) w) := by
 have H2 := tw_fit digit s at_ hat
 have H3 := fun (k : Nat) (h : k < s.size) (h1 : at_ ≤ k) (h2 : k < at_ + ((s.data.toList.drop at_).takeWhile digit).length) => tw_in digit s at_ k h h1 h2
 have H4 := fun (h : at_ + ((s.data.toList.drop at_).takeWhile digit).length < s.size) => tw_out digit s at_ h
 have HR := fun (v : World) (hr : Rd RT b s at_ v) => run_digit b at_ _ s v hs (Nat.le_add_right _ _) H2 H3 H4 hr
 have hxw := ext_word s at_ ((s.data.toList.drop at_).takeWhile digit).length H2
 have htk : (s.data.toList.drop at_).take ((s.data.toList.drop at_).takeWhile digit).length = (s.data.toList.drop at_).takeWhile digit := (List.prefix_iff_eq_take.1 (List.takeWhile_prefix _)).symm
 rw [htk] at hxw
 clear H3 H4 htk
 have hE0 : numR (s.data.toList.drop at_) = if Sm.pe ((s.data.toList.drop at_).takeWhile digit) = 0 then .ok (⟨3, [], Sm.pv ((s.data.toList.drop at_).takeWhile digit), 0⟩, ((s.data.toList.drop at_).takeWhile digit).length) else .error (0, Sm.pe ((s.data.toList.drop at_).takeWhile digit)) := rfl
 obtain ⟨ds, hds⟩ : ∃ ds, (s.data.toList.drop at_).takeWhile digit = ds := ⟨_, rfl⟩
 rw [hds] at H2 HR hxw hE0
 clear hds
 obtain ⟨x, hx⟩ : ∃ x, s.extract at_ (at_ + ds.length) = x := ⟨_, rfl⟩
 rw [hx] at HR hxw
 have hxs : x.size ≤ 281474976710656 := by rw [← hx, ByteArray.size_extract]; omega
 have HP := fun (v : World) (h : ErrVar v) => parse_any x v hxs h
 have hxl : x.data.toList = ds := by rw [hxw]
 rw [hxl] at HP
 clear hxl hx
 obtain ⟨pe, hpe⟩ : ∃ n, Sm.pe ds = n := ⟨_, rfl⟩
 obtain ⟨pv, hpv⟩ : ∃ n, Sm.pv ds = n := ⟨_, rfl⟩
 rw [hpe, hpv] at HP hE0
 rw [hE0]
 clear hE0 hxw hpe hpv
 obtain ⟨z, hz⟩ : ∃ z, at_ + ds.length = z := ⟨_, rfl⟩
 rw [hz] at HR H2
 have HR := Lib.hid HR
 have HP := Lib.hid HP
 have hbl := hrd.lt
 have c1 := hrd.c1
 have HV := Lib.hid hv; clear hv
 by_cases h0 : pe = 0
 · subst h0
   rw [if_pos rfl]
   go_enter Tryz.func136, Tryz.ntmps136
   go_wp2_with fail
   have hS := St.made hrd 3 (at_ : Int)
   obtain ⟨W, hW⟩ : ∃ W, (w.alloc (Obj.cells #[.int .i64 0, .string ⟨#[]⟩, .int .i64 0, .int .i64 0] TT)).alloc (Obj.cells #[.int .i64 3, .string ⟨#[]⟩, .int .i64 0, .int .i64 (at_ : Int)] TT) = W := ⟨_, rfl⟩
   rw [hW] at hS ⊢
   clear hW c1
   refine (HR.out _ hS.rd).mono ?_; rintro e w3 ⟨rfl, hr3, hm3⟩
   have hS := hS.call hbl hr3 hm3
   go_wp2_with fail
   refine (HP.out _ (HV.out.mv hS.mv hvb)).mono ?_; rintro e w4 ⟨rfl, hb4⟩
   have hS := hS.call hbl (hS.rd.back hb4) (Mv.below hb4)
   have e0 := hS.t0.c0
   have e1 := hS.t0.c1
   have e2 := hS.t0.c2
   have e3 := hS.t0.c3
   have ef := hS.t0.fz
   have g0 := hS.t1.c0
   have g1 := hS.t1.c1
   have g2 := hS.t1.c2
   have g3 := hS.t1.c3
   have gf := hS.t1.fz
   have hne5 : ¬ w.heap.size = w.heap.size + 1 := by omega
   have hne6 : ¬ w.heap.size + 1 = w.heap.size := by omega
   go_wp2_with fail
   refine bodyPost_ret (v := .agg #[.int .i64 3, .string ⟨#[]⟩, .int .i64 pv, .int .i64 (at_ : Int)]) (by simp [results, Tryz.results136, go_sem, e0, e1, e2, e3]) rfl ?_
   have hR := hS.rd.far (p := ⟨w.heap.size + 1, 2, none⟩) (show b ≠ w.heap.size + 1 by omega) (.int .i64 pv)
   have hM := hS.mv.new (p := ⟨w.heap.size + 1, 2, none⟩) (show w.heap.size ≤ w.heap.size + 1 by omega) (.int .i64 pv)
   obtain ⟨f1, f2⟩ := fin4 hR hM hbl (.int .i64 3) (.string ⟨#[]⟩) (.int .i64 pv) (.int .i64 (at_ : Int))
   exact ⟨rfl, by rw [hz]; exact f1, f2⟩
 rw [if_neg h0]
 have hb0 : (pe == 0) = false := by simpa using h0
 have hb1 : (pe != 0) = true := by simpa using h0
 go_enter Tryz.func136, Tryz.ntmps136
 go_wp2_with fail
 have hS := St.made hrd 3 (at_ : Int)
 obtain ⟨W, hW⟩ : ∃ W, (w.alloc (Obj.cells #[.int .i64 0, .string ⟨#[]⟩, .int .i64 0, .int .i64 0] TT)).alloc (Obj.cells #[.int .i64 3, .string ⟨#[]⟩, .int .i64 0, .int .i64 (at_ : Int)] TT) = W := ⟨_, rfl⟩
 rw [hW] at hS ⊢
 clear hW c1
 refine (HR.out _ hS.rd).mono ?_; rintro e w3 ⟨rfl, hr3, hm3⟩
 have hS := hS.call hbl hr3 hm3
 go_wp2_with fail
 refine (HP.out _ (HV.out.mv hS.mv hvb)).mono ?_; rintro e w4 ⟨rfl, hb4⟩
 have hS := hS.call hbl (hS.rd.back hb4) (Mv.below hb4)
 have g3 := hS.t1.c3
 go_wp2_with fail
 refine (stop_any _ pe _).mono ?_; rintro e w' ⟨rfl, rfl⟩
 go_wp2
 exact ⟨rfl, rfl, hS.mv⟩
end Lx
end Go.Proofs.YtmmgfifpjifjnaaGreatDoor
namespace Go.Proofs.YtmmgfifpjifjnaaGreatDoor
open Go.RowKit
namespace Lx
abbrev IT : Nat := 3
abbrev ET : Nat := 38
abbrev FT : Nat := 176
def One (T k : Nat) (v : Value) (w : World) : Prop := w.heap[k]? = some (.cells #[v] T (0, 0))
theorem One.c {T k : Nat} {v : Value} {w : World} (h : One T k v w) : w.cell? ⟨k, 0, none⟩ = some v := cell_of_one h
theorem One.fz {T k : Nat} {v : Value} {w : World} (h : One T k v w) : w.frozen? ⟨k, 0, none⟩ = false := free_of_one h
theorem caught_nil (p q : Addr) (w : World) :
  Calls Tryz.prog 95 #[.nilIface, .pointer (some p), .pointer (some q)] w (Done (.bool false) w) := by
 go_enter Tryz.func95, Tryz.ntmps95
 go_wp2
 go_ret
 exact ⟨rfl, rfl⟩
set_option maxRecDepth 100000 in
set_option maxHeartbeats 1600000 in
theorem caught_fault (k5 k6 : Nat) (a n a0 n0 : Int) (w : World) (h5 : One IT k5 (.int .i64 a0) w) (h6 : One ET k6 (.int .i64 n0) w) (hne : k5 ≠ k6) :
  Calls Tryz.prog 95 #[flt a n, .pointer (some ⟨k5, 0, none⟩), .pointer (some ⟨k6, 0, none⟩)] w
   (Done (.bool true) (((w.setCell ⟨k5, 0, none⟩ (.int .i64 a)).setCell ⟨k6, 0, none⟩ (.int .i64 n)).alloc (Obj.cells #[.int .i64 a, .int .i64 n] FT)).drew) := by
 have c5 := h5.c
 have f5 := h5.fz
 have c6 := h6.c
 have f6 := h6.fz
 have l5 := lt_of_block h5
 have l6 := lt_of_block h6
 have hne2 : ¬ k6 = k5 := fun e => hne e.symm
 have hta : ∀ v : World, (Instr.typeAssert (.iface FT (.agg #[.int .i64 a, .int .i64 n])) 20 FT true).run Tryz.prog v = .ok (.tuple #[.agg #[.int .i64 a, .int .i64 n], .bool true]) v := fun _ => by kernel_rfl
 have hn5 : ¬ k5 = w.heap.size := by omega
 have hn6 : ¬ k6 = w.heap.size := by omega
 have hm5 : ¬ w.heap.size = k5 := by omega
 have hm6 : ¬ w.heap.size = k6 := by omega
 unfold flt
 go_enter Tryz.func95, Tryz.ntmps95
 go_wp2
 go_region
 go_wp2
 go_ret
 exact ⟨rfl, rfl⟩
def Closed (u : FrameMode) (Q : World → Prop) (e : Ending) (u' : FrameMode) (w' : World) : Prop := e = .returned (.tuple #[]) ∧ u' = u ∧ Q w'
theorem catch_idle (k4 k5 k6 : Nat) (w : World) :
  CallsD Tryz.prog 94 #[.pointer (some ⟨k5, 0, none⟩), .pointer (some ⟨k6, 0, none⟩), .pointer (some ⟨k4, 0, none⟩)] .returning w (Closed .returning fun w' => w = w') := by
 refine callsD_of_wpS Tryz.func94 rfl fun c₀ cs hu => ?_
 apply wpS_seq
 apply wpS_region
 simp [wpOpsS, go_sem, recoverD, hu, Tryz.ntmps94, Exit.thenS]
 refine (caught_nil _ _ _).mono ?_; rintro e w' ⟨rfl, rfl⟩
 refine wpS_cond (t := false) (by simp [Act.eval, Array.replicate]) ?_
 simp only [Bool.false_eq_true, if_false]
 refine wpS_of_wp (wp_skip ?_)
 cases c₀
 simp_all [bodyPostS, results, Tryz.results94, Closed]
theorem Tk.set3 {T k : Nat} {kd n a : Int} {wd : ByteArray} {w : World} (h : Tk T k kd wd n a w) (x : Int) : Tk T k kd wd n x (w.setCell ⟨k, 3, none⟩ (.int .i64 x)) := by
 unfold Tk at h ⊢
 simp [World.setCell, Array.getElem?_modify, h]
theorem One.far {T k : Nat} {v : Value} {w : World} (h : One T k v w) {p : Addr} (hp : k ≠ p.block) (u : Value) : One T k v (w.setCell p u) := (Below.heap_setCell w p u k hp).trans h
theorem One.set_ {T k : Nat} {v : Value} {w : World} (h : One T k v w) (u : Value) : One T k u (w.setCell ⟨k, 0, none⟩ u) := one_setCell h
theorem One.alloc {T k : Nat} {v : Value} {w : World} (h : One T k v w) (o : Obj) : One T k v (w.alloc o) := (Below.heap_alloc w o k (lt_of_block h)).trans h
def Fixed (k4 k5 k6 : Nat) (a n : Int) (w w' : World) : Prop := Tk TT k4 0 ⟨#[]⟩ 0 0 w' ∧ One IT k5 (.int .i64 a) w' ∧ One ET k6 (.int .i64 n) w' ∧ ∀ B, B ≤ k4 → B ≤ k5 → B ≤ k6 → B ≤ w.heap.size → Below B w w'
set_option maxRecDepth 100000 in
set_option maxHeartbeats 1600000 in
theorem catch_fault (k4 k5 k6 : Nat) (a n a0 n0 : Int) (w : World) (h4 : Tk TT k4 0 ⟨#[]⟩ 0 0 w) (h5 : One IT k5 (.int .i64 a0) w) (h6 : One ET k6 (.int .i64 n0) w) (hne : k5 ≠ k6) (h45 : k4 ≠ k5) (h46 : k4 ≠ k6) :
  CallsD Tryz.prog 94 #[.pointer (some ⟨k5, 0, none⟩), .pointer (some ⟨k6, 0, none⟩), .pointer (some ⟨k4, 0, none⟩)] (.panicking [{ v := flt a n, recovered := false }]) w
   (Closed (.panicking [{ v := flt a n, recovered := true }]) (Fixed k4 k5 k6 a n w)) := by
 refine callsD_of_wpS Tryz.func94 rfl fun c₀ cs hu => ?_
 apply wpS_seq
 apply wpS_region
 simp [wpOpsS, go_sem, recoverD, hu, Tryz.ntmps94, Exit.thenS]
 refine (caught_fault k5 k6 a n a0 n0 w h5 h6 hne).mono ?_; rintro e w' ⟨rfl, hw⟩
 have g4 : Tk TT k4 0 ⟨#[]⟩ 0 0 w' := by rw [← hw]; exact ((h4.far (p := ⟨k5, 0, none⟩) h45 _).far (p := ⟨k6, 0, none⟩) h46 _).alloc _
 have g5 : One IT k5 (.int .i64 a) w' := by rw [← hw]; exact ((h5.set_ _).far (p := ⟨k6, 0, none⟩) hne _).alloc _
 have g6 : One ET k6 (.int .i64 n) w' := by rw [← hw]; exact ((h6.far (p := ⟨k5, 0, none⟩) (Ne.symm hne) _).set_ _).alloc _
 have gb : ∀ B, B ≤ k4 → B ≤ k5 → B ≤ k6 → B ≤ w.heap.size → Below B w w' := fun B b4 b5 b6 bs => by
  rw [← hw]
  exact ((((Below.refl B w).setCell (p := ⟨k5, 0, none⟩) b5 _).setCell (p := ⟨k6, 0, none⟩) b6 _).alloc (by simpa using bs) _).drew
 clear hw
 refine wpS_cond (t := true) (by simp [Act.eval, Array.replicate]) ?_
 simp only [if_true]
 have e0 := g4.c0
 have e1 := g4.c1
 have e2 := g4.c2
 have e3 := g4.c3
 have ef := g4.fz
 apply wpS_region
 simp [wpOpsS, go_sem, e0, e1, e2, e3, ef, bodyPostS, results, Tryz.results94]
 refine ⟨rfl, rfl, (((g4.set0 0).set1 ⟨#[]⟩).set2 0).set3 0, (((g5.far (Ne.symm h45) _).far (Ne.symm h45) _).far (Ne.symm h45) _).far (Ne.symm h45) _, (((g6.far (Ne.symm h46) _).far (Ne.symm h46) _).far (Ne.symm h46) _).far (Ne.symm h46) _, fun B b4 b5 b6 bs => ?_⟩
 exact ((((gb B b4 b5 b6 bs).setCell (p := ⟨k4, 0, none⟩) b4 _).setCell (p := ⟨k4, 1, none⟩) b4 _).setCell (p := ⟨k4, 2, none⟩) b4 _).setCell (p := ⟨k4, 3, none⟩) b4 _
end Lx
end Go.Proofs.YtmmgfifpjifjnaaGreatDoor
namespace Go.Proofs.YtmmgfifpjifjnaaGreatDoor
open Go.RowKit
namespace Lx
theorem ext_all (s : ByteArray) : s.extract 0 s.size = s := by
 apply ByteArray.ext
 apply Array.toList_inj.1
 rw [ext_list]
 show (List.take s.data.toList.length s.data.toList).drop 0 = _
 rw [List.take_length, List.drop_zero]
theorem ext_not (s : ByteArray) (k : Nat) (h : k < s.size) : ¬ s.extract 0 k = s := by
 intro h'
 have := congrArg ByteArray.size h'
 rw [ext_size s 0 k (Nat.zero_le _) (by omega)] at this
 omega
theorem str_ne {x s : ByteArray} (h : ¬ x = s) : (x.toList == s.toList) = false := by
 rw [beq_eq_false_iff_ne]
 intro e
 rw [ByteArray.toList_eq, ByteArray.toList_eq] at e
 exact h (ByteArray.ext (Array.toList_inj.1 e))
theorem Rd.made0 {T : Nat} {s : ByteArray} (w : World) : Rd T w.heap.size s 0 (w.alloc (.cells #[.string s, .int .i64 0] T)) := Go.Deep.blk_alloc_new w _
variable {s : ByteArray} {w : World}
section
variable {b : Nat}
theorem kw0 (hs : s.size ≤ 140737488351232) (hrd : Rd RT b s 0 w) : Calls Tryz.prog 65 #[.pointer (some ⟨b, 0, none⟩)] w (Turn RT b s (kwL s.data.toList) (.string (s.extract 0 (kwL s.data.toList))) w) := by
 have := keywords_any hs (Nat.zero_le _) hrd
 rwa [List.drop_zero, Nat.zero_add] at this
theorem nm0 (hs : s.size ≤ 140737488351232) (hrd : Rd RT b s 0 w) : Calls Tryz.prog 67 #[.pointer (some ⟨b, 0, none⟩)] w (Turn RT b s (nameL s.data.toList) (.string (s.extract 0 (nameL s.data.toList))) w) := by
 have := name_any hs (Nat.zero_le _) hrd
 rwa [List.drop_zero, Nat.zero_add] at this
theorem op0 (hs : s.size ≤ 140737488351232) (hrd : Rd RT b s 0 w) : Calls Tryz.prog 68 #[.pointer (some ⟨b, 0, none⟩)] w (Turn RT b s (operL s.data.toList) (.string (s.extract 0 (operL s.data.toList))) w) := by
 have := oper_any hs (Nat.zero_le _) hrd
 rwa [List.drop_zero, Nat.zero_add] at this
end
theorem arity_empty (he : s.toList = []) : Calls Tryz.prog 40 #[.string s] w (Back (.int .i64 (-1)) w) := by
 have he2 : s.toList.isEmpty = true := by rw [he]; rfl
 go_enter Tryz.func40, Tryz.ntmps40
 go_wp2_with fail
 go_ret
 exact ⟨rfl, (Below.refl _ _).alloc (Nat.le_refl _) _⟩
theorem arity_long (he : ¬ s.toList = []) (h64 : 64 < s.size) : Calls Tryz.prog 40 #[.string s] w (Back (.int .i64 (-1)) w) := by
 have he2 : s.toList.isEmpty = false := by cases h : s.toList with | nil => exact absurd h he | cons _ _ => rfl
 have h64b : (64 : Int) < (s.size : Int) := by omega
 go_enter Tryz.func40, Tryz.ntmps40
 go_wp2_with fail
 go_ret
 exact ⟨rfl, (Below.refl _ _).alloc (Nat.le_refl _) _⟩
set_option maxRecDepth 100000 in
set_option maxHeartbeats 1600000 in
theorem arity_kw (he : ¬ s.toList = []) (h64 : s.size ≤ 64) (hk : kwL s.data.toList = s.size) :
  Calls Tryz.prog 40 #[.string s] w (Back (.int .i64 (Lib.countByte s.data.toList 58)) w) := by
 have he2 : s.toList.isEmpty = false := by cases h : s.toList with | nil => exact absurd h he | cons _ _ => rfl
 have h64b : ¬ (64 : Int) < (s.size : Int) := by omega
 have HK := fun (v : World) (hv : Rd RT w.heap.size s 0 v) => kw0 (by omega) hv
 rw [hk, ext_all] at HK
 have HK := Lib.hid HK
 obtain ⟨n, hn⟩ : ∃ n, Lib.countByte s.data.toList 58 = n := ⟨_, rfl⟩
 have HC := fun v : World => Tryz.strings_Count_one s 58 v
 rw [hn] at HC ⊢
 have HC := Lib.hid HC
 clear hk hn
 go_enter Tryz.func40, Tryz.ntmps40
 go_wp2_with fail
 refine (HK.out _ (Rd.made0 w)).mono ?_; rintro e w1 ⟨rfl, hr1, hm1⟩
 go_wp2_with fail
 refine (HC.out _).mono ?_; rintro e w2 ⟨rfl, rfl⟩
 go_wp2_with fail
 go_ret
 exact ⟨rfl, ((Below.refl _ _).alloc (Nat.le_refl _) _).trans (hm1.new_below (Nat.le_refl _) (by simp))⟩
set_option maxRecDepth 100000 in
set_option maxHeartbeats 1600000 in
theorem arity_rest (he : ¬ s.toList = []) (h64 : s.size ≤ 64) (hk : kwL s.data.toList ≠ s.size) (n : Int) (hn : n = if nameL s.data.toList = s.size then 0 else if operL s.data.toList = s.size then 1 else -1) :
  Calls Tryz.prog 40 #[.string s] w (Back (.int .i64 n) w) := by
 have he2 : s.toList.isEmpty = false := by cases h : s.toList with | nil => exact absurd h he | cons _ _ => rfl
 have h64b : ¬ (64 : Int) < (s.size : Int) := by omega
 have hkl : kwL s.data.toList ≤ s.size := kwL_le s.data.toList
 have hnl : nameL s.data.toList ≤ s.size := nameL_le s.data.toList
 have hol : operL s.data.toList ≤ s.size := operL_le s.data.toList
 have hx1 := ext_not s (kwL s.data.toList) (by omega)
 have hx2 : nameL s.data.toList ≠ s.size → ¬ s.extract 0 (nameL s.data.toList) = s := fun h => ext_not s _ (by omega)
 have hx3 : operL s.data.toList ≠ s.size → ¬ s.extract 0 (operL s.data.toList) = s := fun h => ext_not s _ (by omega)
 have hy2 : nameL s.data.toList = s.size → s.extract 0 (nameL s.data.toList) = s := fun h => by rw [h, ext_all]
 have hy3 : operL s.data.toList = s.size → s.extract 0 (operL s.data.toList) = s := fun h => by rw [h, ext_all]
 have HK := fun (v : World) (hv : Rd RT w.heap.size s 0 v) => kw0 (by omega) hv
 have HN := fun (v : World) (hv : Rd RT w.heap.size s 0 v) => nm0 (by omega) hv
 have HO := fun (v : World) (hv : Rd RT w.heap.size s 0 v) => op0 (by omega) hv
 obtain ⟨x, hx⟩ : ∃ x, s.extract 0 (kwL s.data.toList) = x := ⟨_, rfl⟩
 obtain ⟨y, hy⟩ : ∃ x, s.extract 0 (nameL s.data.toList) = x := ⟨_, rfl⟩
 obtain ⟨z, hz⟩ : ∃ x, s.extract 0 (operL s.data.toList) = x := ⟨_, rfl⟩
 rw [hx] at HK hx1
 rw [hy] at HN hx2 hy2
 rw [hz] at HO hx3 hy3
 have hx1b := str_ne hx1
 have HK := Lib.hid HK
 have HN := Lib.hid HN
 have HO := Lib.hid HO
 have hz0 : (w.alloc (.cells #[.string s, .int .i64 0] RT)).heap.size = w.heap.size + 1 := by simp
 by_cases hnm : nameL s.data.toList = s.size
 · rw [if_pos hnm] at hn
   subst hn
   have hys := hy2 hnm
   subst hys
   clear hx hy hz hx2 hx3 hy3 hk hnm hkl hnl hol hy2
   go_enter Tryz.func40, Tryz.ntmps40
   go_wp2_with fail
   refine (HK.out _ (Rd.made0 w)).mono ?_; rintro e w1 ⟨rfl, hr1, hm1⟩
   have d1 := hr1.c1
   have df := hr1.fz
   go_wp2_with fail
   refine (HN.out _ (hr1.set_ 0)).mono ?_; rintro e w2 ⟨rfl, hr2, hm2⟩
   go_wp2_with fail
   go_ret
   exact ⟨rfl, ((Below.refl _ _).alloc (Nat.le_refl _) _).trans (((hm1.set_ 1 _).trans hm2).new_below (Nat.le_refl _) (by simp))⟩
 rw [if_neg hnm] at hn
 have hys := hx2 hnm
 have hysb := str_ne hys
 by_cases hop : operL s.data.toList = s.size
 · rw [if_pos hop] at hn
   subst hn
   have hzs := hy3 hop
   subst hzs
   clear hx hy hz hx2 hx3 hy2 hk hnm hkl hnl hol hy3 hop
   go_enter Tryz.func40, Tryz.ntmps40
   go_wp2_with fail
   refine (HK.out _ (Rd.made0 w)).mono ?_; rintro e w1 ⟨rfl, hr1, hm1⟩
   have d1 := hr1.c1
   have df := hr1.fz
   go_wp2_with fail
   refine (HN.out _ (hr1.set_ 0)).mono ?_; rintro e w2 ⟨rfl, hr2, hm2⟩
   clear d1 df
   have d1 := hr2.c1
   have df := hr2.fz
   go_wp2_with fail
   refine (HO.out _ (hr2.set_ 0)).mono ?_; rintro e w3 ⟨rfl, hr3, hm3⟩
   go_wp2_with fail
   go_ret
   exact ⟨rfl, ((Below.refl _ _).alloc (Nat.le_refl _) _).trans (((((hm1.set_ 1 _).trans hm2).set_ 1 _).trans hm3).new_below (Nat.le_refl _) (by simp))⟩
 rw [if_neg hop] at hn
 subst hn
 have hzs := hx3 hop
 have hzsb := str_ne hzs
 clear hx hy hz hx2 hx3 hy2 hk hnm hkl hnl hol hy3 hop
 go_enter Tryz.func40, Tryz.ntmps40
 go_wp2_with fail
 refine (HK.out _ (Rd.made0 w)).mono ?_; rintro e w1 ⟨rfl, hr1, hm1⟩
 have d1 := hr1.c1
 have df := hr1.fz
 go_wp2_with fail
 refine (HN.out _ (hr1.set_ 0)).mono ?_; rintro e w2 ⟨rfl, hr2, hm2⟩
 clear d1 df
 have d1 := hr2.c1
 have df := hr2.fz
 go_wp2_with fail
 refine (HO.out _ (hr2.set_ 0)).mono ?_; rintro e w3 ⟨rfl, hr3, hm3⟩
 go_wp2_with fail
 go_ret
 exact ⟨rfl, ((Below.refl _ _).alloc (Nat.le_refl _) _).trans (((((hm1.set_ 1 _).trans hm2).set_ 1 _).trans hm3).new_below (Nat.le_refl _) (by simp))⟩
end Lx
end Go.Proofs.YtmmgfifpjifjnaaGreatDoor
