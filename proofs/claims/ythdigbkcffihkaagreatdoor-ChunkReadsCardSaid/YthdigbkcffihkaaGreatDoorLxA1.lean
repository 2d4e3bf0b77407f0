/- Package lex, the walk: Arity. -/
import Derived.Test.YthdigbkcffihkaaGreatDoorLxW13
import Derived.Test.YthdigbkcffihkaaGreatDoorLxW15
set_option linter.unusedVariables false
namespace Go.Proofs.YthdigbkcffihkaaGreatDoor
open Go.RowKit
namespace Lx
theorem ext_all (s : ByteArray) : s.extract 0 s.size = s := by
  apply ByteArray.ext
  apply Array.toList_inj.1
  rw [ext_list]
  show (List.take s.data.toList.length s.data.toList).drop 0 = _
  rw [List.take_length, List.drop_zero]
theorem ext_not (s : ByteArray) (k : Nat) (h : k < s.size) : ¬ s.extract 0 k = s := by
  intro h'
  have := congrArg ByteArray.size h'
  rw [ext_size s 0 k (Nat.zero_le _) (by omega)] at this
  omega
theorem str_ne {x s : ByteArray} (h : ¬ x = s) : (x.toList == s.toList) = false := by
  rw [beq_eq_false_iff_ne]
  intro e
  rw [ByteArray.toList_eq, ByteArray.toList_eq] at e
  exact h (ByteArray.ext (Array.toList_inj.1 e))
theorem Rd.made0 {T : Nat} {s : ByteArray} (w : World) : Rd T w.heap.size s 0 (w.alloc (.cells #[.string s, .int .i64 0] T)) := Go.Deep.blk_alloc_new w _
variable {s : ByteArray} {w : World}
section
variable {b : Nat}
theorem kw0 (hs : s.size ≤ 140737488351232) (hrd : Rd RT b s 0 w) : Calls Tryz.prog 89 #[.pointer (some ⟨b, 0, none⟩)] w (Turn RT b s (kwL s.data.toList) (.string (s.extract 0 (kwL s.data.toList))) w) := by
  have := keywords_any hs (Nat.zero_le _) hrd
  rwa [List.drop_zero, Nat.zero_add] at this
theorem nm0 (hs : s.size ≤ 140737488351232) (hrd : Rd RT b s 0 w) : Calls Tryz.prog 90 #[.pointer (some ⟨b, 0, none⟩)] w (Turn RT b s (nameL s.data.toList) (.string (s.extract 0 (nameL s.data.toList))) w) := by
  have := name_any hs (Nat.zero_le _) hrd
  rwa [List.drop_zero, Nat.zero_add] at this
theorem op0 (hs : s.size ≤ 140737488351232) (hrd : Rd RT b s 0 w) : Calls Tryz.prog 91 #[.pointer (some ⟨b, 0, none⟩)] w (Turn RT b s (operL s.data.toList) (.string (s.extract 0 (operL s.data.toList))) w) := by
  have := oper_any hs (Nat.zero_le _) hrd
  rwa [List.drop_zero, Nat.zero_add] at this
end
theorem arity_empty (he : s.toList = []) : Calls Tryz.prog 69 #[.string s] w (Back (.int .i64 (-1)) w) := by
  have he2 : s.toList.isEmpty = true := by rw [he]; rfl
  go_enter Tryz.func69, Tryz.ntmps69
  go_wp2_with fail
  go_ret
  exact ⟨rfl, (Below.refl _ _).alloc (Nat.le_refl _) _⟩
theorem arity_long (he : ¬ s.toList = []) (h64 : 64 < s.size) : Calls Tryz.prog 69 #[.string s] w (Back (.int .i64 (-1)) w) := by
  have he2 : s.toList.isEmpty = false := by cases h : s.toList with | nil => exact absurd h he | cons _ _ => rfl
  have h64b : (64 : Int) < (s.size : Int) := by omega
  go_enter Tryz.func69, Tryz.ntmps69
  go_wp2_with fail
  go_ret
  exact ⟨rfl, (Below.refl _ _).alloc (Nat.le_refl _) _⟩
set_option maxRecDepth 100000 in
set_option maxHeartbeats 1600000 in
theorem arity_kw (he : ¬ s.toList = []) (h64 : s.size ≤ 64) (hk : kwL s.data.toList = s.size) :
    Calls Tryz.prog 69 #[.string s] w (Back (.int .i64 (Lib.countByte s.data.toList 58)) w) := by
  have he2 : s.toList.isEmpty = false := by cases h : s.toList with | nil => exact absurd h he | cons _ _ => rfl
  have h64b : ¬ (64 : Int) < (s.size : Int) := by omega
  have HK := fun (v : World) (hv : Rd RT w.heap.size s 0 v) => kw0 (by omega) hv
  rw [hk, ext_all] at HK
  have HK := Lib.hid HK
  obtain ⟨n, hn⟩ : ∃ n, Lib.countByte s.data.toList 58 = n := ⟨_, rfl⟩
  have HC := fun v : World => Tryz.strings_Count_one s 58 v
  rw [hn] at HC ⊢
  have HC := Lib.hid HC
  clear hk hn
  go_enter Tryz.func69, Tryz.ntmps69
  go_wp2_with fail
  refine (HK.out _ (Rd.made0 w)).mono ?_; rintro e w1 ⟨rfl, hr1, hm1⟩
  go_wp2_with fail
  refine (HC.out _).mono ?_; rintro e w2 ⟨rfl, rfl⟩
  go_wp2_with fail
  go_ret
  exact ⟨rfl, ((Below.refl _ _).alloc (Nat.le_refl _) _).trans (hm1.new_below (Nat.le_refl _) (by simp))⟩
set_option maxRecDepth 100000 in
set_option maxHeartbeats 1600000 in
theorem arity_rest (he : ¬ s.toList = []) (h64 : s.size ≤ 64) (hk : kwL s.data.toList ≠ s.size) (n : Int) (hn : n = if nameL s.data.toList = s.size then 0 else if operL s.data.toList = s.size then 1 else -1) :
    Calls Tryz.prog 69 #[.string s] w (Back (.int .i64 n) w) := by
  have he2 : s.toList.isEmpty = false := by cases h : s.toList with | nil => exact absurd h he | cons _ _ => rfl
  have h64b : ¬ (64 : Int) < (s.size : Int) := by omega
  have hkl : kwL s.data.toList ≤ s.size := kwL_le s.data.toList
  have hnl : nameL s.data.toList ≤ s.size := nameL_le s.data.toList
  have hol : operL s.data.toList ≤ s.size := operL_le s.data.toList
  have hx1 := ext_not s (kwL s.data.toList) (by omega)
  have hx2 : nameL s.data.toList ≠ s.size → ¬ s.extract 0 (nameL s.data.toList) = s := fun h => ext_not s _ (by omega)
  have hx3 : operL s.data.toList ≠ s.size → ¬ s.extract 0 (operL s.data.toList) = s := fun h => ext_not s _ (by omega)
  have hy2 : nameL s.data.toList = s.size → s.extract 0 (nameL s.data.toList) = s := fun h => by rw [h, ext_all]
  have hy3 : operL s.data.toList = s.size → s.extract 0 (operL s.data.toList) = s := fun h => by rw [h, ext_all]
  have HK := fun (v : World) (hv : Rd RT w.heap.size s 0 v) => kw0 (by omega) hv
  have HN := fun (v : World) (hv : Rd RT w.heap.size s 0 v) => nm0 (by omega) hv
  have HO := fun (v : World) (hv : Rd RT w.heap.size s 0 v) => op0 (by omega) hv
  obtain ⟨x, hx⟩ : ∃ x, s.extract 0 (kwL s.data.toList) = x := ⟨_, rfl⟩
  obtain ⟨y, hy⟩ : ∃ x, s.extract 0 (nameL s.data.toList) = x := ⟨_, rfl⟩
  obtain ⟨z, hz⟩ : ∃ x, s.extract 0 (operL s.data.toList) = x := ⟨_, rfl⟩
  rw [hx] at HK hx1
  rw [hy] at HN hx2 hy2
  rw [hz] at HO hx3 hy3
  have hx1b := str_ne hx1
  have HK := Lib.hid HK
  have HN := Lib.hid HN
  have HO := Lib.hid HO
  have hz0 : (w.alloc (.cells #[.string s, .int .i64 0] RT)).heap.size = w.heap.size + 1 := by simp
  by_cases hnm : nameL s.data.toList = s.size
  · rw [if_pos hnm] at hn
    subst hn
    have hys := hy2 hnm
    subst hys
    clear hx hy hz hx2 hx3 hy3 hk hnm hkl hnl hol hy2
    go_enter Tryz.func69, Tryz.ntmps69
    go_wp2_with fail
    refine (HK.out _ (Rd.made0 w)).mono ?_; rintro e w1 ⟨rfl, hr1, hm1⟩
    have d1 := hr1.c1
    have df := hr1.fz
    go_wp2_with fail
    refine (HN.out _ (hr1.set_ 0)).mono ?_; rintro e w2 ⟨rfl, hr2, hm2⟩
    go_wp2_with fail
    go_ret
    exact ⟨rfl, ((Below.refl _ _).alloc (Nat.le_refl _) _).trans (((hm1.set_ 1 _).trans hm2).new_below (Nat.le_refl _) (by simp))⟩
  · rw [if_neg hnm] at hn
    have hys := hx2 hnm
    have hysb := str_ne hys
    by_cases hop : operL s.data.toList = s.size
    · rw [if_pos hop] at hn
      subst hn
      have hzs := hy3 hop
      subst hzs
      clear hx hy hz hx2 hx3 hy2 hk hnm hkl hnl hol hy3 hop
      go_enter Tryz.func69, Tryz.ntmps69
      go_wp2_with fail
      refine (HK.out _ (Rd.made0 w)).mono ?_; rintro e w1 ⟨rfl, hr1, hm1⟩
      have d1 := hr1.c1
      have df := hr1.fz
      go_wp2_with fail
      refine (HN.out _ (hr1.set_ 0)).mono ?_; rintro e w2 ⟨rfl, hr2, hm2⟩
      clear d1 df
      have d1 := hr2.c1
      have df := hr2.fz
      go_wp2_with fail
      refine (HO.out _ (hr2.set_ 0)).mono ?_; rintro e w3 ⟨rfl, hr3, hm3⟩
      go_wp2_with fail
      go_ret
      exact ⟨rfl, ((Below.refl _ _).alloc (Nat.le_refl _) _).trans (((((hm1.set_ 1 _).trans hm2).set_ 1 _).trans hm3).new_below (Nat.le_refl _) (by simp))⟩
    · rw [if_neg hop] at hn
      subst hn
      have hzs := hx3 hop
      have hzsb := str_ne hzs
      clear hx hy hz hx2 hx3 hy2 hk hnm hkl hnl hol hy3 hop
      go_enter Tryz.func69, Tryz.ntmps69
      go_wp2_with fail
      refine (HK.out _ (Rd.made0 w)).mono ?_; rintro e w1 ⟨rfl, hr1, hm1⟩
      have d1 := hr1.c1
      have df := hr1.fz
      go_wp2_with fail
      refine (HN.out _ (hr1.set_ 0)).mono ?_; rintro e w2 ⟨rfl, hr2, hm2⟩
      clear d1 df
      have d1 := hr2.c1
      have df := hr2.fz
      go_wp2_with fail
      refine (HO.out _ (hr2.set_ 0)).mono ?_; rintro e w3 ⟨rfl, hr3, hm3⟩
      go_wp2_with fail
      go_ret
      exact ⟨rfl, ((Below.refl _ _).alloc (Nat.le_refl _) _).trans (((((hm1.set_ 1 _).trans hm2).set_ 1 _).trans hm3).new_below (Nat.le_refl _) (by simp))⟩
theorem Arity_any (s : ByteArray) (w : World) (hs : s.size ≤ 140737488351232) : Calls Tryz.prog 69 #[.string s] w (Back (.int .i64 (arityL s.data.toList)) w) := by
  have hl : s.data.toList.length = s.size := rfl
  unfold arityL
  by_cases he : s.data.toList = []
  · rw [if_pos he]; exact arity_empty (by rw [ByteArray.toList_eq]; exact he)
  · have he' : ¬ s.toList = [] := by rw [ByteArray.toList_eq]; exact he
    rw [if_neg he, hl]
    by_cases h64 : 64 < s.size
    · rw [if_pos h64]; exact arity_long he' h64
    · rw [if_neg h64]
      by_cases hk : kwL s.data.toList = s.size
      · rw [if_pos hk]; exact arity_kw he' (by omega) hk
      · rw [if_neg hk]; exact arity_rest he' (by omega) hk _ rfl
end Lx
end Go.Proofs.YthdigbkcffihkaaGreatDoor
