/- Script, the walk, 1: name, number. -/
import Derived.Test.YtaaknnmnkgnbjaaDoorScSpec
set_option linter.unusedVariables false
namespace Go.Proofs.YtaaknnmnkgnbjaaDoor
open Go.RowKit
namespace Sc
open Bs Sm
variable {w : World}
set_option maxRecDepth 100000 in
set_option maxHeartbeats 1600000 in
theorem name_any (k : Nat) (hk : k ≤ 8) (w : World) : Calls Tryd.prog 20 #[.int .i64 (k : Int)] w (Back (.string ⟨(nameR k).toArray⟩) w) := by
  match k, hk with
  | 0, _ | 1, _ | 2, _ | 3, _ | 4, _ | 5, _ | 6, _ | 7, _ | 8, _ =>
    go_enter Tryd.func20, Tryd.ntmps20
    go_wp2_with fail
    go_ret
    exact ⟨rfl, (Below.refl _ _).alloc (Nat.le_refl _) _⟩
theorem u8_ne {a b : UInt8} (h : ¬ a = b) : ((a.toNat : Int) == (b.toNat : Int)) = false := by
  rw [beq_eq_false_iff_ne]; intro e; exact h (UInt8.toNat_inj.1 (by omega))
theorem pe_cases (l : Bytes) : pe l = 0 ∨ pe l = 3 ∨ pe l = 9 := by
  unfold pe
  split
  · split
    · exact .inl rfl
    · exact .inr (.inr rfl)
  · exact .inr (.inl rfl)
theorem pv_in (l : Bytes) : -4611686018427387904 ≤ pv l ∧ pv l ≤ 4611686018427387903 := by
  unfold pv
  split
  · rename_i h
    unfold pe at h
    split at h
    · split at h
      · assumption
      · cases h
    · cases h
  · omega
theorem nOf_err {s : Bytes} {limit e : Int} (h : eOf s limit = e) (he : e ≠ 0) : nOf s limit = 0 := by unfold nOf; rw [if_neg (by rw [h]; exact he)]
set_option maxRecDepth 100000 in
set_option maxHeartbeats 1600000 in
theorem number_any (s : ByteArray) (limit : Int) (w : World) (hs : s.size ≤ 65536) (hne : 0 < s.size) (hev : ErrVar w) (hp : Pow10 w) :
    Calls Tryd.prog 28 #[.string s, .int .i64 limit] w (Back (.tuple #[.int .i64 (nOf s.data.toList limit), .int .i64 (eOf s.data.toList limit)]) w) := by
  have hP := fun v (h : ErrVar v) => parse_any s v (by omega) h
  have hh : s.data.toList.head? = some s[0] := by
    rw [List.head?_eq_getElem?]; exact List.getElem?_eq_getElem (show 0 < s.data.toList.length from hne)
  have hin := pv_in s.data.toList
  have HT := Lib.hid (fun (v : World) (h : Pow10 v) => text_num (pv s.data.toList) (by omega) (by omega) v h)
  have hE : eOf s.data.toList limit = if pe s.data.toList = 3 ∨ s[0] = 45 ∨ (pe s.data.toList = 0 ∧ Lib.itoa (pv s.data.toList) ≠ s.data.toList) ∨ (pe s.data.toList = 9 ∧ s[0] = 48) then 3 else if pe s.data.toList ≠ 0 ∨ limit < pv s.data.toList then 9 else 0 := by
    unfold eOf; rw [hh]; simp
  have HP := Lib.hid hp
  have HEV := Lib.hid hev
  have hc := pe_cases s.data.toList
  obtain ⟨N, hN⟩ : ∃ N, nOf s.data.toList limit = N := ⟨_, rfl⟩
  obtain ⟨E, hEE⟩ : ∃ E, eOf s.data.toList limit = E := ⟨_, rfl⟩
  have hN0 : E ≠ 0 → N = 0 := fun h => by rw [← hN]; exact nOf_err hEE h
  have hN1 : E = 0 → N = pv s.data.toList := fun h => by rw [← hN]; unfold nOf; rw [if_pos (hEE.trans h)]
  rw [hN, hEE]
  rw [hEE] at hE
  clear hN hEE hh hp hev
  obtain ⟨q, hq⟩ : ∃ q, pe s.data.toList = q := ⟨_, rfl⟩
  obtain ⟨v, hv⟩ : ∃ v, pv s.data.toList = v := ⟨_, rfl⟩
  rw [hq, hv] at hE hP
  rw [hq] at hc
  rw [hv] at hN1 HT hin
  clear hq hv
  have HPP := Lib.hid hP
  clear hP
  rcases hc with rfl | rfl | rfl
  · by_cases h45 : s[0] = 45
    · have hb : ((s[0].toNat : Int) == 45) = true := by rw [h45]; rfl
      rw [if_pos (by simp [h45])] at hE
      subst hE
      obtain rfl := hN0 (by decide)
      clear hN0 hN1 h45
      go_enter Tryd.func28, Tryd.ntmps28
      go_wp2_with fail
      refine (HPP.out _ HEV.out).mono ?_; rintro e w1 ⟨rfl, hb1⟩
      go_wp2_with fail
      go_ret2
      exact ⟨rfl, hb1⟩
    · have hb : ((s[0].toNat : Int) == 45) = false := u8_ne h45
      obtain ⟨T, hT⟩ : ∃ T : ByteArray, (⟨(Lib.itoa v).toArray⟩ : ByteArray) = T := ⟨_, rfl⟩
      have hTl : T.data.toList = Lib.itoa v := by rw [← hT]
      rw [hT] at HT
      by_cases hts : Lib.itoa v = s.data.toList
      · have hTs : T = s := by apply ByteArray.ext; apply Array.toList_inj.1; rw [hTl, hts]
        subst hTs
        by_cases hlim : limit < v
        · have hd : decide (v > limit) = true := by simpa using hlim
          rw [if_neg (by simp [h45, hts]), if_pos (.inr hlim)] at hE
          subst hE
          obtain rfl := hN0 (by decide)
          clear hN0 hN1 h45 hT hTl hts
          go_enter Tryd.func28, Tryd.ntmps28
          go_wp2_with fail
          refine (HPP.out _ HEV.out).mono ?_; rintro e w1 ⟨rfl, hb1⟩
          go_wp2_with fail
          refine (HT.out _ (HP.out.below hb1)).mono ?_; rintro e w2 ⟨rfl, hb2⟩
          go_wp2_with fail
          go_ret2
          exact ⟨rfl, hb1.trans (hb2.mono hb1.size)⟩
        · have hd : decide (v > limit) = false := by simpa using hlim
          rw [if_neg (by simp [h45, hts]), if_neg (by simp; omega)] at hE
          subst hE
          obtain rfl := hN1 rfl
          clear hN0 hN1 h45 hT hTl hts
          go_enter Tryd.func28, Tryd.ntmps28
          go_wp2_with fail
          refine (HPP.out _ HEV.out).mono ?_; rintro e w1 ⟨rfl, hb1⟩
          go_wp2_with fail
          refine (HT.out _ (HP.out.below hb1)).mono ?_; rintro e w2 ⟨rfl, hb2⟩
          go_wp2_with fail
          go_ret2
          exact ⟨rfl, hb1.trans (hb2.mono hb1.size)⟩
      · have hne2 : (T.toList == s.toList) = false := by
          rw [beq_eq_false_iff_ne, ByteArray.toList_eq, ByteArray.toList_eq, hTl]; exact hts
        rw [if_pos (.inr (.inr (.inl ⟨rfl, hts⟩)))] at hE
        subst hE
        obtain rfl := hN0 (by decide)
        clear hN0 hN1 h45 hT hTl hts
        go_enter Tryd.func28, Tryd.ntmps28
        go_wp2_with fail
        refine (HPP.out _ HEV.out).mono ?_; rintro e w1 ⟨rfl, hb1⟩
        go_wp2_with fail
        refine (HT.out _ (HP.out.below hb1)).mono ?_; rintro e w2 ⟨rfl, hb2⟩
        go_wp2_with fail
        go_ret2
        exact ⟨rfl, hb1.trans (hb2.mono hb1.size)⟩
  · rw [if_pos (.inl rfl)] at hE
    subst hE
    obtain rfl := hN0 (by decide)
    clear hN0 hN1
    go_enter Tryd.func28, Tryd.ntmps28
    go_wp2_with fail
    refine (HPP.out _ HEV.out).mono ?_; rintro e w1 ⟨rfl, hb1⟩
    go_wp2_with fail
    go_ret2
    exact ⟨rfl, hb1⟩
  · by_cases h45 : s[0] = 45
    · have hb : ((s[0].toNat : Int) == 45) = true := by rw [h45]; rfl
      rw [if_pos (by simp [h45])] at hE
      subst hE
      obtain rfl := hN0 (by decide)
      clear hN0 hN1 h45
      go_enter Tryd.func28, Tryd.ntmps28
      go_wp2_with fail
      refine (HPP.out _ HEV.out).mono ?_; rintro e w1 ⟨rfl, hb1⟩
      go_wp2_with fail
      go_ret2
      exact ⟨rfl, hb1⟩
    · have hb : ((s[0].toNat : Int) == 45) = false := u8_ne h45
      by_cases h48 : s[0] = 48
      · have hb2 : ((s[0].toNat : Int) == 48) = true := by rw [h48]; rfl
        rw [if_pos (by simp [h48])] at hE
        subst hE
        obtain rfl := hN0 (by decide)
        clear hN0 hN1 h45 h48
        go_enter Tryd.func28, Tryd.ntmps28
        go_wp2_with fail
        refine (HPP.out _ HEV.out).mono ?_; rintro e w1 ⟨rfl, hb1⟩
        go_wp2_with fail
        go_ret2
        exact ⟨rfl, hb1⟩
      · have hb2 : ((s[0].toNat : Int) == 48) = false := u8_ne h48
        rw [if_neg (by simp [h45, h48]), if_pos (.inl (by decide))] at hE
        subst hE
        obtain rfl := hN0 (by decide)
        clear hN0 hN1 h45 h48
        go_enter Tryd.func28, Tryd.ntmps28
        go_wp2_with fail
        refine (HPP.out _ HEV.out).mono ?_; rintro e w1 ⟨rfl, hb1⟩
        go_wp2_with fail
        go_ret2
        exact ⟨rfl, hb1⟩
end Sc
end Go.Proofs.YtaaknnmnkgnbjaaDoor
