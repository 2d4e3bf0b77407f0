/- Package small's Parse, by the library's contracts (XSmParse's text, for a seat that has the lexer). -/
import Derived.Test.YthdigbkcffihkaaGreatDoorLxW4
import Derived.WalkSmall
set_option linter.unusedVariables false
namespace Go.Proofs.YthdigbkcffihkaaGreatDoor
open Go.RowKit
namespace Lx
open Sm
/-- A value; new blocks alone. -/
def Back (v : Value) (w : World) (e : Ending) (w' : World) : Prop := e = .returned v ∧ Below w.heap.size w w'
def ErrVar (w : World) : Prop := ∃ tp p, w.var? Tryz.prog "strconv.ErrRange" = some #[.iface tp p]
theorem ErrVar.below {w w' : World} (h : ErrVar w) (hb : Below w.heap.size w w') : ErrVar w' := by
  obtain ⟨tp, p, hv⟩ := h
  refine ⟨tp, p, ?_⟩
  have hg : Tryz.prog.globalNamed "strconv.ErrRange" = some 4 := by kernel_rfl
  refine var?_below hb hg ?_ hv
  rcases Nat.lt_or_ge 4 w.heap.size with h | h
  · exact h
  · exfalso
    unfold World.var? at hv
    simp only [hg, Option.bind_some, Array.getElem?_eq_none h] at hv
    cases hv
theorem trim_call (s : List UInt8) (w : World) (hs : s.length ≤ 9223372036854775807) :
    Calls Tryz.prog 50 #[.string ⟨s.toArray⟩, .string ⟨#[48, 49, 50, 51, 52, 53, 54, 55, 56, 57]⟩] w (Back (.string ⟨(Lib.trimS s [48, 49, 50, 51, 52, 53, 54, 55, 56, 57]).toArray⟩) w) :=
  (Any.strings_Trim_laid Tryz.lays160 (by kernel_rfl) ⟨s.toArray⟩ ⟨#[48, 49, 50, 51, 52, 53, 54, 55, 56, 57]⟩ w (by simpa [ByteArray.size] using hs) (by decide) (ascii_of_all (by decide)))
theorem prefix_call (s : ByteArray) (w : World) :
    Calls Tryz.prog 115 #[.string s, .string ⟨#[45]⟩] w (Done (.string ⟨(digs s.data.toList).toArray⟩) w) :=
  (Tryz.strings_TrimPrefix s ⟨#[45]⟩ w).mono fun _ _ ⟨he, hw⟩ => ⟨he, hw.symm⟩
theorem digs_le (l : List UInt8) : (digs l).length ≤ l.length := by
  rcases digs_cases l with ⟨r, e1, e2, _⟩ | ⟨e2, _⟩
  · rw [e2, e1]; simp
  · rw [e2]; exact Nat.le_refl _
theorem bytesWorld_below (w : World) (e : TypeId) (t : ByteArray) : Below w.heap.size w (Lib.bytesWorld w e t) := by
  have h1 : Below w.heap.size w (w.drew.alloc (.cells (Lib.bytesCells w e t) e)) := ((Below.refl _ _).drew).alloc (Nat.le_refl _) _
  refine h1.trans ?_
  unfold Lib.bytesWorld World.freeze
  rw [if_neg (by decide)]
  exact ⟨rfl, rfl, rfl, by simp, fun k hk => by
    rw [Array.getElem?_modify, if_neg (by show ¬ w.heap.size = k; omega)]⟩
set_option maxHeartbeats 1000000 in
theorem parse_any (s : ByteArray) (w : World) (hs : s.size ≤ 281474976710656) (hv : ErrVar w) :
    Calls Tryz.prog 113 #[.string s] w (Back (.tuple #[.int .i64 (pv s.data.toList), .int .i64 (pe s.data.toList)]) w) := by
  obtain ⟨d, hd⟩ : ∃ d, digs s.data.toList = d := ⟨_, rfl⟩
  have hdl : d.length ≤ 9223372036854775807 := by
    rw [← hd]; have := digs_le s.data.toList; have : s.data.toList.length = s.size := rfl; omega
  by_cases h0 : d = []
  · have e1 : pe s.data.toList = 3 := by unfold pe okd; rw [hd, h0]; rfl
    have e2 : pv s.data.toList = 0 := by unfold pv; rw [e1]; rfl
    rw [e1, e2]
    subst h0
    have HD := Lib.hid hd; clear hd e1 e2
    go_enter Tryz.func113, Tryz.ntmps113
    go_wp2_with fail
    refine (prefix_call _ _).mono ?_; rintro e w' ⟨rfl, rfl⟩
    rw [HD.out]
    go_wp2_with fail
    go_ret2
    exact ⟨rfl, Below.refl _ _⟩
  · have h0b : d.isEmpty = false := by simpa using h0
    by_cases hall : d.all isd = true
    · have hok : okd s.data.toList = true := by unfold okd; rw [hd]; simp [h0, hall]
      have ht : Lib.trimS d [48, 49, 50, 51, 52, 53, 54, 55, 56, 57] = [] := (trim_all d).2 hall
      have HT := Lib.hid ht
      have HD := Lib.hid hd
      clear ht hd hall
      rcases parse_num s.data.toList hok with ⟨hp, p1, p2⟩ | ⟨hp, hno⟩
      · have HP := Lib.hid hp; clear hp
        by_cases hin : -4611686018427387904 ≤ num s.data.toList ∧ num s.data.toList ≤ 4611686018427387903
        · have e1 : pe s.data.toList = 0 := by unfold pe; rw [if_pos hok, if_pos hin]
          have e2 : pv s.data.toList = num s.data.toList := by unfold pv; rw [if_pos e1]
          rw [e1, e2]
          obtain ⟨v, hv'⟩ : ∃ v, num s.data.toList = v := ⟨_, rfl⟩
          rw [hv'] at HP hin p1 p2 ⊢
          obtain ⟨i1, i2⟩ := hin
          clear e1 e2 hok hv'
          go_enter Tryz.func113, Tryz.ntmps113
          go_wp2_with fail
          refine (prefix_call _ _).mono ?_; rintro e w' ⟨rfl, rfl⟩
          rw [HD.out]
          go_wp2_with fail
          refine (trim_call _ _ hdl).mono ?_; rintro e w1 ⟨rfl, hb1⟩
          rw [HT.out]
          go_wp2_with fail
          refine (Tryz.strconv_ParseInt_10_at64_ok s (by omega) v HP.out _).mono ?_; rintro e w2 ⟨rfl, hw2⟩
          have hb2 : Below w1.heap.size w1 w2 := by
            rcases hw2 with rfl | ⟨t, rfl⟩
            · exact Below.refl _ _
            · exact bytesWorld_below _ _ _
          clear hw2
          go_wp2_with fail
          go_ret2
          exact ⟨rfl, hb1.trans (hb2.mono hb1.size)⟩
        · have e1 : pe s.data.toList = 9 := by unfold pe; rw [if_pos hok, if_neg hin]
          have e2 : pv s.data.toList = 0 := by unfold pv; rw [e1]; rfl
          rw [e1, e2]
          obtain ⟨v, hv'⟩ : ∃ v, num s.data.toList = v := ⟨_, rfl⟩
          rw [hv'] at HP hin p1 p2
          clear e1 e2 hok hv'
          by_cases hlo : v < -4611686018427387904
          all_goals
            have hhi : v < -4611686018427387904 ∨ 4611686018427387903 < v := by omega
            clear hin
            go_enter Tryz.func113, Tryz.ntmps113
            go_wp2_with fail
            refine (prefix_call _ _).mono ?_; rintro e w' ⟨rfl, rfl⟩
            rw [HD.out]
            go_wp2_with fail
            refine (trim_call _ _ hdl).mono ?_; rintro e w1 ⟨rfl, hb1⟩
            rw [HT.out]
            go_wp2_with fail
            refine (Tryz.strconv_ParseInt_10_at64_ok s (by omega) v HP.out _).mono ?_; rintro e w2 ⟨rfl, hw2⟩
            have hb2 : Below w1.heap.size w1 w2 := by
              rcases hw2 with rfl | ⟨t, rfl⟩
              · exact Below.refl _ _
              · exact bytesWorld_below _ _ _
            clear hw2
            go_wp2_with fail
            go_ret2
            exact ⟨rfl, hb1.trans (hb2.mono hb1.size)⟩
      · have e1 : pe s.data.toList = 9 := by unfold pe; rw [if_pos hok]; exact if_neg hno
        have e2 : pv s.data.toList = 0 := by unfold pv; rw [e1]; rfl
        rw [e1, e2]
        have HP := Lib.hid hp
        have HV := Lib.hid hv
        clear e1 e2 hok hno hp hv
        go_enter Tryz.func113, Tryz.ntmps113
        go_wp2_with fail
        refine (prefix_call _ _).mono ?_; rintro e w' ⟨rfl, rfl⟩
        rw [HD.out]
        go_wp2_with fail
        refine (trim_call _ _ hdl).mono ?_; rintro e w1 ⟨rfl, hb1⟩
        rw [HT.out]
        obtain ⟨tp, p, hv1⟩ := HV.out.below hb1
        have HV1 := Lib.hid hv1; clear hv1
        go_wp2_with fail
        refine (Tryz.strconv_ParseInt_10_at64_range_var s hs HP.out tp p _ HV1.out).mono ?_; rintro e w2 ⟨N, rfl, _, _, hb2⟩
        go_wp2_with fail
        go_ret2
        exact ⟨rfl, hb1.trans (hb2.mono hb1.size)⟩
    · have e1 : pe s.data.toList = 3 := by unfold pe okd; rw [hd]; simp [hall]
      have e2 : pv s.data.toList = 0 := by unfold pv; rw [e1]; rfl
      rw [e1, e2]
      have ht : ¬ Lib.trimS d [48, 49, 50, 51, 52, 53, 54, 55, 56, 57] = [] := fun h => hall ((trim_all d).1 h)
      have HD := Lib.hid hd
      clear hd e1 e2 hall
      obtain ⟨t, htt⟩ : ∃ t, Lib.trimS d [48, 49, 50, 51, 52, 53, 54, 55, 56, 57] = t := ⟨_, rfl⟩
      rw [htt] at ht
      have htb : t.isEmpty = false := by simpa using ht
      have HT := Lib.hid htt; clear htt
      go_enter Tryz.func113, Tryz.ntmps113
      go_wp2_with fail
      refine (prefix_call _ _).mono ?_; rintro e w' ⟨rfl, rfl⟩
      rw [HD.out]
      go_wp2_with fail
      refine (trim_call _ _ hdl).mono ?_; rintro e w1 ⟨rfl, hb1⟩
      rw [HT.out]
      go_wp2_with fail
      go_ret2
      exact ⟨rfl, hb1⟩
end Lx
end Go.Proofs.YthdigbkcffihkaaGreatDoor
