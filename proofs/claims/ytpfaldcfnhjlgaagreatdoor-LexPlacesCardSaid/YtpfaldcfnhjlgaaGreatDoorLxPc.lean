/- LexPlaces: the walk. -/
import Derived.Test.YtpfaldcfnhjlgaaGreatDoorLxSp
import Derived.Test.YtpfaldcfnhjlgaaGreatDoorLxSpq
set_option linter.unusedVariables false
namespace Go.Proofs.YtpfaldcfnhjlgaaGreatDoor
open Go.RowKit
namespace Lx
theorem ErrVar.low {w w' : World} (h : ErrVar w) (hb : Below w.heap.size w w') : ErrVar w' := h.below hb
set_option maxRecDepth 100000 in
set_option maxHeartbeats 1600000 in
theorem places_err (a : ByteArray) (w : World) (hv : ErrVar w) (p : Nat) (n : Int) (hx : allR (shortB a 2000).data.toList = .error (p, n)) :
    Calls Tryz.prog 5 #[.string a] w (Back (.bool true) w) := by
  have hn := (allR_err _ _ _ hx).1
  have hnb : (n != 0) = true := by simpa using hn
  obtain ⟨A1, hA1⟩ : ∃ A1, shortB a 2000 = A1 := ⟨_, rfl⟩
  have hla := shortB_le a 2000
  have SA := fun v : World => short_any a 2000 v
  rw [hA1] at hx hla SA
  have hAll := fun (v : World) (h : ErrVar v) => All_any A1 v (by omega) h
  rw [hx] at hAll
  have HA := Lib.hid hAll
  have HV := Lib.hid hv
  have SA := Lib.hid SA
  clear hv hx hn hA1 hAll hla
  go_enter Tryz.func5, Tryz.ntmps5
  go_wp2_with fail
  refine (awake_any _ HV.out).mono ?_; rintro e w1 ⟨rfl, hb1⟩
  go_wp2_with fail
  refine (SA.out _).mono ?_; rintro e w' ⟨rfl, rfl⟩
  go_wp2_with fail
  refine (HA.out _ (HV.out.below hb1)).mono ?_; rintro e w2 ⟨hb2, rfl⟩
  go_wp2_with fail
  go_ret
  exact ⟨rfl, hb1.trans (hb2.mono hb1.size)⟩
set_option maxRecDepth 100000 in
set_option maxHeartbeats 3200000 in
theorem places_ok (a : ByteArray) (w : World) (hv : ErrVar w) (ht : Pow10 w) (hm : MaxV w) (l : List Tok) (hx : allR (shortB a 2000).data.toList = .ok l) :
    Calls Tryz.prog 5 #[.string a] w (Back (.bool true) w) := by
  have hpl := allR_placed _ _ hx
  have hsm := allR_small _ _ hx
  have hin := (allR_in _ _ hx).1
  obtain ⟨l', t', hll, _, _⟩ := allR_last _ _ hx
  have hlne : l ≠ [] := by rw [hll]; simp
  obtain ⟨A1, hA1⟩ : ∃ A1, shortB a 2000 = A1 := ⟨_, rfl⟩
  have hla := shortB_le a 2000
  have SA := fun v : World => short_any a 2000 v
  rw [hA1] at hx hla SA hpl hin
  have hin : l.length ≤ A1.size + 1 := hin
  have hAll := fun (v : World) (h : ErrVar v) => All_any A1 v (by omega) h
  rw [hx] at hAll
  have HA := Lib.hid hAll
  have HV := Lib.hid hv
  have HT := Lib.hid ht
  have HM := Lib.hid hm
  have SA := Lib.hid SA
  have HSM := Lib.hid hsm
  have HPL := Lib.hid hpl
  obtain ⟨nl, hnl⟩ : ∃ nl, l.length = nl := ⟨_, rfl⟩
  have HNL := Lib.hid hnl
  rw [hnl] at hin
  have hnp : 0 < nl := by rw [← hnl]; exact List.length_pos_iff.2 hlne
  have hnli : IntKind.i64.wrap ((nl : Int) - 1) = (nl : Int) - 1 := IntWalk.i64_in _ (by omega)
  clear hv ht hm hx hA1 hAll hsm hpl hnl hll
  go_enter Tryz.func5, Tryz.ntmps5
  go_wp2_with fail
  refine (awake_any _ HV.out).mono ?_; rintro e w1 ⟨rfl, hb1⟩
  go_wp2_with fail
  refine (SA.out _).mono ?_; rintro e w' ⟨rfl, rfl⟩
  go_wp2_with fail
  refine (HA.out _ (HV.out.below hb1)).mono ?_; rintro e w2 ⟨hb2, v, rfl, hown⟩
  have hbw := hb1.trans (hb2.mono hb1.size)
  obtain ⟨g, cap, rfl, hg1, hg2, hcap, hcm, hrow⟩ := rows_of_own hown hlne
  rw [HNL.out] at hcap ⊢
  have hr := Lib.hid hrow
  clear hown hrow hb1 hb2
  go_wp2_with fail
  go_loopw [6, 26] (fun y x wr => ∃ (last k : Nat), y = .int .i64 (last : Int) ∧ x = .int .i64 (k : Int) ∧ last ≤ 100000 ∧ k ≤ nl ∧ (k < nl → Hid (Placed A1.data.toList last (l.drop k))) ∧ Below w2.heap.size w2 wr) (fun _ x _ => nl - (intOf x).toNat)
  case atStart => exact ⟨0, 0, rfl, rfl, by omega, Nat.zero_le _, fun _ => by rw [List.drop_zero]; exact HPL, Below.refl _ _⟩
  case round =>
    obtain ⟨last, k, rfl, rfl, hlast, hk, hP, hbr⟩ := hrel
    by_cases hkn : k < nl
    · have hP := hP hkn
      have hdec : decide ((k : Int) < (nl : Int)) = true := by simpa using hkn
      have hkw : IntKind.i64.wrap ((k : Int) + 1) = (k : Int) + 1 := IntWalk.i64_in _ (by omega)
      obtain ⟨u, hu⟩ : ∃ u, l[k]? = some u := ⟨_, List.getElem?_eq_getElem (by rw [HNL.out]; exact hkn)⟩
      obtain ⟨r0, r1, r2, r3⟩ := (hr.out.below hbr hg2) k u hu
      have hdrop : l.drop k = u :: l.drop (k + 1) := by
        obtain ⟨h1, h2⟩ := List.getElem?_eq_some_iff.1 hu
        rw [List.drop_eq_getElem_cons h1, h2]
      have hP2 := hP.out
      rw [hdrop] at hP2
      obtain ⟨p1, p2, ⟨p3, p4⟩, p5⟩ := hP2
      obtain ⟨s1, s2, s3, s4⟩ := HSM.out u (List.mem_of_getElem? hu)
      have hlen : (l.drop (k + 1)).length = nl - (k + 1) := by rw [List.length_drop, HNL.out]
      have hspell := fun (v : World) (h : Pow10 v) (h' : MaxV v) (h'' : ErrVar v) => Spell_any (k := (u.kind : Int)) (wd := ⟨u.word.toArray⟩) (n := u.num) (a := (u.at_ : Int)) (by omega) (by omega) (by omega) (by show u.word.length ≤ _; omega) h h' h''
      have hspu : spelledL (u.kind : Int) (⟨u.word.toArray⟩ : ByteArray).data.toList u.num = sp u := rfl
      rw [hspu, show (⟨u.word.toArray⟩ : ByteArray).data.toList = u.word from rfl, p3] at hspell
      have hsl : u.at_ ≤ A1.size := p2
      have hk4 : ¬ (u.at_ : Int) < (last : Int) := by omega
      have hk5 : ¬ (A1.size : Int) < (u.at_ : Int) := by omega
      have hs1 : IntKind.i64.wrap ((u.at_ : Int) + 1) = (u.at_ : Int) + 1 := IntWalk.i64_in _ (by omega)
      obtain ⟨W, hW⟩ : ∃ W : ByteArray, (⟨(sp u).toArray⟩ : ByteArray) = W := ⟨_, rfl⟩
      have hWs : W.size = (sp u).length := by rw [← hW]; simp [ByteArray.size]
      have hend : ((u.kind : Int) == 0) = ((k : Int) == (nl : Int) - 1) := by
        rw [Bool.eq_iff_iff, beq_iff_eq, beq_iff_eq]
        rcases p5 with ⟨e1, e2⟩ | ⟨e1, e2, _⟩
        · rw [e1] at hlen; simp at hlen; omega
        · have : 0 < (l.drop (k + 1)).length := List.length_pos_iff.2 e1
          omega
      have hNEXT : k + 1 < nl → Hid (Placed A1.data.toList (lastOf u) (l.drop (k + 1))) := fun hlt => by
        rcases p5 with ⟨e1, _⟩ | ⟨_, _, e3⟩
        · rw [e1] at hlen; simp at hlen; omega
        · exact Lib.hid e3
      obtain ⟨q0, hq0⟩ : ∃ q0 : Bool, ((k : Int) == (nl : Int) - 1) = q0 := ⟨_, rfl⟩
      have k0 : ((u.kind : Int) == 0) = q0 := hend.trans hq0
      clear hend
      by_cases hpl : plainK (u.kind : Int)
      · have k3 : ((u.kind : Int) != 3) = true := by simpa using hpl.1
        have k5 : ((u.kind : Int) != 5) = true := by simpa using hpl.2
        obtain ⟨p6, p7⟩ := p4 hpl
        have p6 : u.at_ + (sp u).length ≤ A1.size := p6
        have hlo : lastOf u = u.at_ + W.size := by unfold lastOf; rw [if_pos hpl, hWs]
        rw [hlo] at hNEXT
        rw [← hWs] at p6 p7
        have hex : A1.extract u.at_ (u.at_ + W.size) = W := by rw [ext_word _ _ _ p6, p7, hW]
        have hs2 : IntKind.i64.wrap ((u.at_ : Int) + (W.size : Int)) = (u.at_ : Int) + (W.size : Int) := IntWalk.i64_in _ (by omega)
        have hn2 : ((u.at_ : Int) + (W.size : Int)).toNat = u.at_ + W.size := by omega
        have hk6 : ¬ (A1.size : Int) < (u.at_ : Int) + (W.size : Int) := by omega
        have hk7 : (u.at_ : Int) ≤ (u.at_ : Int) + (W.size : Int) := by omega
        have hk8 : (u.at_ : Int) + (W.size : Int) ≤ (A1.size : Int) := by omega
        have hk9 : (0 : Int) ≤ (u.at_ : Int) + (W.size : Int) := by omega
        clear hpl p7 hlo hWs
        obtain ⟨wd, hwd⟩ : ∃ wd : ByteArray, (⟨u.word.toArray⟩ : ByteArray) = wd := ⟨_, rfl⟩
        obtain ⟨kd, hkd⟩ : ∃ kd : Int, (u.kind : Int) = kd := ⟨_, rfl⟩
        obtain ⟨nn, hnn⟩ : ∃ nn : Int, u.num = nn := ⟨_, rfl⟩
        rw [hwd] at r1 hspell
        rw [hkd] at r0 hspell k0 k3 k5
        rw [hnn] at r2 hspell
        have HS := Lib.hid hspell
        clear hwd hkd hnn hspell hP hu hdrop p1 p2 p3 p4 p5 s1 s2 s3 s4 hlen hspu
        go_wp2_with fail
        have hbt := hbr.alloc hbr.size (Obj.cells #[.int .i64 kd, .string wd, .int .i64 nn, .int .i64 (u.at_ : Int)] TT)
        have hb2w := hbw.trans (hbt.mono hbw.size)
        refine (HS.out _ (HT.out.below hb2w) (HM.out.below hb2w) (HV.out.below hb2w)).mono ?_; rintro e w5 ⟨hb5, rfl⟩
        rw [if_pos rfl, hW]
        have hT : Tk TT wr.heap.size kd wd nn (u.at_ : Int) w5 := (hb5.block _ (by simp)).trans (Tk.made wr)
        have g0 := hT.c0
        have g3 := hT.c3
        have hb5 := hbt.trans (hb5.mono hbt.size)
        clear hT hbt hb2w r0 r1 r2 r3
        go_wp2_with fail
        exact ⟨⟨u.at_ + W.size, k + 1, vint (by omega), vint (by omega), by omega, by omega, hNEXT, hb5⟩, by simp only [intOf]; omega⟩
      · have hlo : lastOf u = u.at_ + 1 := by unfold lastOf; rw [if_neg hpl]
        rw [hlo] at hNEXT
        have h35 : (u.kind : Int) = 3 ∨ (u.kind : Int) = 5 := by unfold plainK at hpl; omega
        rcases h35 with h3 | h5
        · have k3 : ((u.kind : Int) != 3) = false := by rw [h3]; rfl
          have k5 : ((u.kind : Int) != 5) = true := by rw [h3]; rfl
          clear hpl hlo hWs h3
          obtain ⟨wd, hwd⟩ : ∃ wd : ByteArray, (⟨u.word.toArray⟩ : ByteArray) = wd := ⟨_, rfl⟩
          obtain ⟨kd, hkd⟩ : ∃ kd : Int, (u.kind : Int) = kd := ⟨_, rfl⟩
          obtain ⟨nn, hnn⟩ : ∃ nn : Int, u.num = nn := ⟨_, rfl⟩
          rw [hwd] at r1 hspell
          rw [hkd] at r0 hspell k0 k3 k5
          rw [hnn] at r2 hspell
          have HS := Lib.hid hspell
          clear hwd hkd hnn hspell hP hu hdrop p1 p2 p3 p4 p5 s1 s2 s3 s4 hlen hspu
          go_wp2_with fail
          have hbt := hbr.alloc hbr.size (Obj.cells #[.int .i64 kd, .string wd, .int .i64 nn, .int .i64 (u.at_ : Int)] TT)
          have hb2w := hbw.trans (hbt.mono hbw.size)
          refine (HS.out _ (HT.out.below hb2w) (HM.out.below hb2w) (HV.out.below hb2w)).mono ?_; rintro e w5 ⟨hb5, rfl⟩
          rw [if_pos rfl, hW]
          have hT : Tk TT wr.heap.size kd wd nn (u.at_ : Int) w5 := (hb5.block _ (by simp)).trans (Tk.made wr)
          have g0 := hT.c0
          have g3 := hT.c3
          have hb5 := hbt.trans (hb5.mono hbt.size)
          clear hT hbt hb2w r0 r1 r2 r3
          go_wp2_with fail
          exact ⟨⟨u.at_ + 1, k + 1, vint (by omega), vint (by omega), by omega, by omega, hNEXT, hb5⟩, by simp only [intOf]; omega⟩
        · have k3 : ((u.kind : Int) != 3) = true := by rw [h5]; rfl
          have k5 : ((u.kind : Int) != 5) = false := by rw [h5]; rfl
          clear hpl hlo hWs h5
          obtain ⟨wd, hwd⟩ : ∃ wd : ByteArray, (⟨u.word.toArray⟩ : ByteArray) = wd := ⟨_, rfl⟩
          obtain ⟨kd, hkd⟩ : ∃ kd : Int, (u.kind : Int) = kd := ⟨_, rfl⟩
          obtain ⟨nn, hnn⟩ : ∃ nn : Int, u.num = nn := ⟨_, rfl⟩
          rw [hwd] at r1 hspell
          rw [hkd] at r0 hspell k0 k3 k5
          rw [hnn] at r2 hspell
          have HS := Lib.hid hspell
          clear hwd hkd hnn hspell hP hu hdrop p1 p2 p3 p4 p5 s1 s2 s3 s4 hlen hspu
          go_wp2_with fail
          have hbt := hbr.alloc hbr.size (Obj.cells #[.int .i64 kd, .string wd, .int .i64 nn, .int .i64 (u.at_ : Int)] TT)
          have hb2w := hbw.trans (hbt.mono hbw.size)
          refine (HS.out _ (HT.out.below hb2w) (HM.out.below hb2w) (HV.out.below hb2w)).mono ?_; rintro e w5 ⟨hb5, rfl⟩
          rw [if_pos rfl, hW]
          have hT : Tk TT wr.heap.size kd wd nn (u.at_ : Int) w5 := (hb5.block _ (by simp)).trans (Tk.made wr)
          have g0 := hT.c0
          have g3 := hT.c3
          have hb5 := hbt.trans (hb5.mono hbt.size)
          clear hT hbt hb2w r0 r1 r2 r3
          go_wp2_with fail
          exact ⟨⟨u.at_ + 1, k + 1, vint (by omega), vint (by omega), by omega, by omega, hNEXT, hb5⟩, by simp only [intOf]; omega⟩
    · have hdec : decide ((k : Int) < (nl : Int)) = false := by simpa using hkn
      go_wp2_with fail
      go_ret
      exact ⟨rfl, hbw.trans (hbr.mono hbw.size)⟩
theorem places_walk (a : ByteArray) (w : World) (_ : a.size ≤ 9223372036854775807) (ht : Pow10 w) (hv : ErrVar w) (hm : MaxV w) : Calls Tryz.prog 5 #[.string a] w (Back (.bool true) w) := by
  cases hx : allR (shortB a 2000).data.toList with
  | error y => exact places_err a w hv y.1 y.2 hx
  | ok l => exact places_ok a w hv ht hm l hx
end Lx
end Go.Proofs.YtpfaldcfnhjlgaaGreatDoor
