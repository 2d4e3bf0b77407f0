/- The reference's Parse, byte by byte. Printed by wip/gen/gen_rparse.py. -/
import Derived.Test.YtmmgpmdjpbalfaaDoorSmParse
set_option linter.unusedVariables false
namespace Go.Proofs.YtmmgpmdjpbalfaaDoor
open Go.RowKit
namespace Sm
/-- What the reference keeps of a value: itself, or that it is beyond. -/
def Sat (m V : Nat) : Prop := (m = V ∧ V ≤ 4611686018427387919) ∨ (m = 9223372036854775807 ∧ 4611686018427387904 < V)
theorem Sat.nought : Sat 0 0 := .inl ⟨rfl, by omega⟩
theorem Sat.over {m V : Nat} (c : Nat) (h : Sat m V) (hm : 461168601842738791 < m) : Sat 9223372036854775807 (V * 10 + c) := by
  unfold Sat at *; omega
theorem Sat.next {m V : Nat} (c : Nat) (hc : c ≤ 9) (h : Sat m V) (hm : m ≤ 461168601842738791) : Sat (10 * m + c) (V * 10 + c) := by
  unfold Sat at *; omega
theorem take_step (l : List UInt8) (a k : Nat) (ha : a ≤ k) (hk : k < l.length) : (l.drop a).take (k + 1 - a) = (l.drop a).take (k - a) ++ [l[k]] := by
  rw [show k + 1 - a = (k - a) + 1 by omega, List.take_succ_eq_append_getElem (by simp; omega)]
  congr 2
  rw [List.getElem_drop]
  congr 1; omega
theorem vfrom_take (l : List UInt8) (a k : Nat) (ha : a ≤ k) (hk : k < l.length) : vfrom 0 ((l.drop a).take (k + 1 - a)) = vfrom 0 ((l.drop a).take (k - a)) * 10 + ((l[k]).toNat - 48) := by
  rw [take_step l a k ha hk, vfrom_snoc]
theorem all_take (l : List UInt8) (a k : Nat) (ha : a ≤ k) (hk : k < l.length) (h : ((l.drop a).take (k - a)).all isd = true) (hc : isd l[k] = true) : ((l.drop a).take (k + 1 - a)).all isd = true := by
  rw [take_step l a k ha hk, List.all_append, h]; simp [hc]
theorem not_all (l : List UInt8) (a k : Nat) (ha : a ≤ k) (hk : k < l.length) (hc : isd l[k] = false) : (l.drop a).all isd = false := by
  rw [List.all_eq_false]
  exact ⟨l[k], List.mem_drop_iff_getElem.2 ⟨k - a, by omega, by congr 1; omega⟩, by simp [hc]⟩
theorem neg_first (l : List UInt8) (h : neg l = false) (hp : 0 < l.length) : (((l[0].toNat : Nat) : Int) == 45) = false := by
  cases l with
  | nil => simp at hp
  | cons c t =>
    have hne : ¬ (45 : UInt8) = c := by simpa [neg, Lib.hasPrefix, List.isPrefixOf] using h
    simp only [List.getElem_cons_zero]
    rw [beq_eq_false_iff_ne]
    intro h2
    exact hne (UInt8.toNat.inj (by show (45 : Nat) = c.toNat; omega))
set_option maxRecDepth 100000 in
set_option maxHeartbeats 2000000 in
theorem rparse_0 (s : ByteArray) (w : World) (hs : s.size ≤ 281474976710656) (hsz : True) (hfirst : ∀ h : 0 < s.size, (((s[0].toNat : Nat) : Int) == 45) = false)
    (hd : digs s.data.toList = s.data.toList.drop 0) (hng : neg s.data.toList = false) :
    Calls Tryd.prog 34 #[.string s] w (Done (.tuple #[.int .i64 (pv s.data.toList), .int .i64 (pe s.data.toList)]) w) := by
  have HD := Lib.hid hd
  have HN := Lib.hid hng
  clear hd hng
  by_cases h0 : s.size = 0
  · have e1 : pe s.data.toList = 3 := by
      have e0 : digs s.data.toList = [] := by rw [HD.out]; exact List.drop_eq_nil_of_le (by show s.size ≤ 0; omega)
      unfold pe okd; rw [e0]; rfl
    have e2 : pv s.data.toList = 0 := by unfold pv; rw [e1]; rfl
    rw [e1, e2]
    clear e1 e2

    clear hfirst
    go_enter Tryd.func34, Tryd.ntmps34
    go_wp2
    go_ret2
    exact ⟨rfl, rfl⟩
  · have hpos : 0 < s.size := by omega
    have hpos0 : 0 < s.size := by omega
    have hf := hfirst hpos0
    have hne : ((s.size : Int) == 0) = false := beq_eq_false_iff_ne.2 (by omega)
    have hne' : ((0 : Int) == (s.size : Int)) = false := beq_eq_false_iff_ne.2 (by omega)
    clear hfirst
    go_enter Tryd.func34, Tryd.ntmps34
    go_wp2
    go_loop [5, 6] (fun m i => ∃ k q : Nat, 0 ≤ k ∧ k ≤ s.size ∧ i = .int .i64 (k : Int) ∧ m = .int .u64 (q : Int) ∧ Sat q (vfrom 0 ((s.data.toList.drop 0).take (k - 0))) ∧ ((s.data.toList.drop 0).take (k - 0)).all isd = true) (fun _ i => s.size - (intOf i).toNat)
    case atStart => exact ⟨0, 0, Nat.le_refl _, by omega, rfl, rfl, by simpa [vfrom_nil] using Sat.nought, by simp⟩
    case round =>
      obtain ⟨k, q, hk1, hk2, rfl, rfl, hsat, hall⟩ := hrel
      have HS := Lib.hid hsat
      have HA := Lib.hid hall
      have hq : (q : Int) ≤ 9223372036854775807 := by unfold Sat at hsat; omega
      clear hsat hall
      by_cases hlt : k < s.size
      · have hget : s.data.toList[k]'hlt = s[k] := rfl
        by_cases hc : isd s[k] = true
        · have hc' := hc
          simp only [isd, Bool.and_eq_true, decide_eq_true_eq] at hc'
          obtain ⟨c1, c2⟩ := hc'
          have d1 : (48 : Int) ≤ (s[k].toNat : Int) := by omega
          have d2 : (s[k].toNat : Int) ≤ 57 := by omega
          have hv := vfrom_take s.data.toList 0 k hk1 hlt
          have ha := all_take s.data.toList 0 k hk1 hlt HA.out (by rw [hget]; exact hc)
          rw [hget] at hv
          have HV := Lib.hid hv
          have HA2 := Lib.hid ha
          by_cases hbig : 461168601842738791 < q
          · have hs2 := HS.out.over (s[k].toNat - 48) hbig
            rw [← HV.out] at hs2
            have HS2 := Lib.hid hs2
            clear hv ha hs2 hc c1 c2 hget HS HA HV
            go_wp2
            go_round
            case rel => exact ⟨k + 1, 9223372036854775807, by omega, by omega, by go_num, rfl, HS2.out, HA2.out⟩
            case measure => simp [intOf]; omega
          · have hs2 := HS.out.next (s[k].toNat - 48) (by omega) (by omega)
            rw [← HV.out] at hs2
            have HS2 := Lib.hid hs2
            have hq2 : (q : Int) ≤ 461168601842738791 := by omega
            have HC : Hid (48 ≤ s[k].toNat) := Lib.hid c1
            clear hv ha hs2 hc c1 c2 hget HS HA HV hbig
            go_wp2
            go_round
            case rel => exact ⟨k + 1, 10 * q + (s[k].toNat - 48), by omega, by omega, by go_num, vint (by have := HC.out; omega), HS2.out, HA2.out⟩
            case measure => simp [intOf]; omega
        · have hcf : isd s[k] = false := by simpa using hc
          have hna := not_all s.data.toList 0 k hk1 hlt (by rw [hget]; exact hcf)
          have e1 : pe s.data.toList = 3 := by
            unfold pe okd; rw [HD.out, hna]; simp
          have e2 : pv s.data.toList = 0 := by unfold pv; rw [e1]; rfl
          have E1 := Lib.hid e1; have E2 := Lib.hid e2
          have hcc : (s[k].toNat : Int) < 48 ∨ 57 < (s[k].toNat : Int) := by
            simp only [isd, Bool.and_eq_false_iff, decide_eq_false_iff_not] at hcf; omega
          clear hc hcf hna e1 e2 hget HS HA
          by_cases h48 : (s[k].toNat : Int) < 48
          all_goals
            go_wp2
            go_ret2
            exact ⟨ret2 (vint E2.out.symm) (vint E1.out.symm), rfl⟩
      · have hke : k = s.size := by omega
        subst hke
        have htk : (s.data.toList.drop 0).take (s.size - 0) = digs s.data.toList := by
          rw [HD.out]; exact List.take_of_length_le (by rw [List.length_drop]; exact Nat.le_refl _)
        have hok : okd s.data.toList = true := by
          have h1 : (digs s.data.toList).all isd = true := by rw [← htk]; exact HA.out
          have h2 : digs s.data.toList ≠ [] := fun h => by
            have h3 := congrArg List.length h
            rw [HD.out, List.length_drop] at h3
            have h4 : s.data.toList.length = s.size := rfl
            rw [h4, List.length_nil] at h3
            omega
          unfold okd; simp [h1, h2]
        have hsat := HS.out
        rw [htk] at hsat
        obtain ⟨V, hV⟩ : ∃ V, vfrom 0 (digs s.data.toList) = V := ⟨_, rfl⟩
        rw [hV] at hsat
        have hnum : num s.data.toList = (V : Int) := by unfold num; rw [HN.out, hV]; rfl
        by_cases hin : q ≤ 4611686018427387903
        · have hqV : q = V := by unfold Sat at hsat; omega
          have e1 : pe s.data.toList = 0 := by unfold pe; rw [if_pos hok, hnum, if_pos (by omega)]
          have e2 : pv s.data.toList = (q : Int) := by unfold pv; rw [if_pos e1, hnum, hqV]
          have E1 := Lib.hid e1; have E2 := Lib.hid e2
          have hin' : (q : Int) ≤ 4611686018427387903 := by omega
          clear htk hok hsat hV hnum hqV e1 e2 HS HA hin
          go_wp2
          go_ret2
          exact ⟨ret2 (vint E2.out.symm) (vint E1.out.symm), rfl⟩
        · have e1 : pe s.data.toList = 9 := by unfold pe; rw [if_pos hok, hnum, if_neg (by unfold Sat at hsat; omega)]
          have e2 : pv s.data.toList = 0 := by unfold pv; rw [e1]; rfl
          have E1 := Lib.hid e1; have E2 := Lib.hid e2
          have hin' : 4611686018427387903 < (q : Int) := by omega
          clear htk hok hsat hV hnum e1 e2 HS HA hin
          by_cases hmid : 4611686018427387904 < (q : Int)
          all_goals
            go_wp2
            go_ret2
            exact ⟨ret2 (vint E2.out.symm) (vint E1.out.symm), rfl⟩
set_option maxRecDepth 100000 in
set_option maxHeartbeats 2000000 in
theorem rparse_1 (s : ByteArray) (w : World) (hs : s.size ≤ 281474976710656) (hsz : 0 < s.size) (hfirst : ∀ h : 0 < s.size, (((s[0].toNat : Nat) : Int) == 45) = true)
    (hd : digs s.data.toList = s.data.toList.drop 1) (hng : neg s.data.toList = true) :
    Calls Tryd.prog 34 #[.string s] w (Done (.tuple #[.int .i64 (pv s.data.toList), .int .i64 (pe s.data.toList)]) w) := by
  have HD := Lib.hid hd
  have HN := Lib.hid hng
  clear hd hng
  by_cases h0 : s.size = 1
  · have e1 : pe s.data.toList = 3 := by
      have e0 : digs s.data.toList = [] := by rw [HD.out]; exact List.drop_eq_nil_of_le (by show s.size ≤ 1; omega)
      unfold pe okd; rw [e0]; rfl
    have e2 : pv s.data.toList = 0 := by unfold pv; rw [e1]; rfl
    rw [e1, e2]
    clear e1 e2
    have hf := hfirst (by omega)
    clear hfirst
    go_enter Tryd.func34, Tryd.ntmps34
    go_wp2
    go_ret2
    exact ⟨rfl, rfl⟩
  · have hpos : 1 < s.size := by omega
    have hpos0 : 0 < s.size := by omega
    have hf := hfirst hpos0
    have hne : ((s.size : Int) == 1) = false := beq_eq_false_iff_ne.2 (by omega)
    have hne' : ((1 : Int) == (s.size : Int)) = false := beq_eq_false_iff_ne.2 (by omega)
    clear hfirst
    go_enter Tryd.func34, Tryd.ntmps34
    go_wp2
    go_loop [5, 6] (fun m i => ∃ k q : Nat, 1 ≤ k ∧ k ≤ s.size ∧ i = .int .i64 (k : Int) ∧ m = .int .u64 (q : Int) ∧ Sat q (vfrom 0 ((s.data.toList.drop 1).take (k - 1))) ∧ ((s.data.toList.drop 1).take (k - 1)).all isd = true) (fun _ i => s.size - (intOf i).toNat)
    case atStart => exact ⟨1, 0, Nat.le_refl _, by omega, rfl, rfl, by simpa [vfrom_nil] using Sat.nought, by simp⟩
    case round =>
      obtain ⟨k, q, hk1, hk2, rfl, rfl, hsat, hall⟩ := hrel
      have HS := Lib.hid hsat
      have HA := Lib.hid hall
      have hq : (q : Int) ≤ 9223372036854775807 := by unfold Sat at hsat; omega
      clear hsat hall
      by_cases hlt : k < s.size
      · have hget : s.data.toList[k]'hlt = s[k] := rfl
        by_cases hc : isd s[k] = true
        · have hc' := hc
          simp only [isd, Bool.and_eq_true, decide_eq_true_eq] at hc'
          obtain ⟨c1, c2⟩ := hc'
          have d1 : (48 : Int) ≤ (s[k].toNat : Int) := by omega
          have d2 : (s[k].toNat : Int) ≤ 57 := by omega
          have hv := vfrom_take s.data.toList 1 k hk1 hlt
          have ha := all_take s.data.toList 1 k hk1 hlt HA.out (by rw [hget]; exact hc)
          rw [hget] at hv
          have HV := Lib.hid hv
          have HA2 := Lib.hid ha
          by_cases hbig : 461168601842738791 < q
          · have hs2 := HS.out.over (s[k].toNat - 48) hbig
            rw [← HV.out] at hs2
            have HS2 := Lib.hid hs2
            clear hv ha hs2 hc c1 c2 hget HS HA HV
            go_wp2
            go_round
            case rel => exact ⟨k + 1, 9223372036854775807, by omega, by omega, by go_num, rfl, HS2.out, HA2.out⟩
            case measure => simp [intOf]; omega
          · have hs2 := HS.out.next (s[k].toNat - 48) (by omega) (by omega)
            rw [← HV.out] at hs2
            have HS2 := Lib.hid hs2
            have hq2 : (q : Int) ≤ 461168601842738791 := by omega
            have HC : Hid (48 ≤ s[k].toNat) := Lib.hid c1
            clear hv ha hs2 hc c1 c2 hget HS HA HV hbig
            go_wp2
            go_round
            case rel => exact ⟨k + 1, 10 * q + (s[k].toNat - 48), by omega, by omega, by go_num, vint (by have := HC.out; omega), HS2.out, HA2.out⟩
            case measure => simp [intOf]; omega
        · have hcf : isd s[k] = false := by simpa using hc
          have hna := not_all s.data.toList 1 k hk1 hlt (by rw [hget]; exact hcf)
          have e1 : pe s.data.toList = 3 := by
            unfold pe okd; rw [HD.out, hna]; simp
          have e2 : pv s.data.toList = 0 := by unfold pv; rw [e1]; rfl
          have E1 := Lib.hid e1; have E2 := Lib.hid e2
          have hcc : (s[k].toNat : Int) < 48 ∨ 57 < (s[k].toNat : Int) := by
            simp only [isd, Bool.and_eq_false_iff, decide_eq_false_iff_not] at hcf; omega
          clear hc hcf hna e1 e2 hget HS HA
          by_cases h48 : (s[k].toNat : Int) < 48
          all_goals
            go_wp2
            go_ret2
            exact ⟨ret2 (vint E2.out.symm) (vint E1.out.symm), rfl⟩
      · have hke : k = s.size := by omega
        subst hke
        have htk : (s.data.toList.drop 1).take (s.size - 1) = digs s.data.toList := by
          rw [HD.out]; exact List.take_of_length_le (by rw [List.length_drop]; exact Nat.le_refl _)
        have hok : okd s.data.toList = true := by
          have h1 : (digs s.data.toList).all isd = true := by rw [← htk]; exact HA.out
          have h2 : digs s.data.toList ≠ [] := fun h => by
            have h3 := congrArg List.length h
            rw [HD.out, List.length_drop] at h3
            have h4 : s.data.toList.length = s.size := rfl
            rw [h4, List.length_nil] at h3
            omega
          unfold okd; simp [h1, h2]
        have hsat := HS.out
        rw [htk] at hsat
        obtain ⟨V, hV⟩ : ∃ V, vfrom 0 (digs s.data.toList) = V := ⟨_, rfl⟩
        rw [hV] at hsat
        have hnum : num s.data.toList = -(V : Int) := by unfold num; rw [HN.out, hV]; rfl
        by_cases hin : q ≤ 4611686018427387904
        · have hqV : q = V := by unfold Sat at hsat; omega
          have e1 : pe s.data.toList = 0 := by unfold pe; rw [if_pos hok, hnum, if_pos (by omega)]
          have e2 : pv s.data.toList = -(q : Int) := by unfold pv; rw [if_pos e1, hnum, hqV]
          have E1 := Lib.hid e1; have E2 := Lib.hid e2
          have hin' : (q : Int) ≤ 4611686018427387904 := by omega
          clear htk hok hsat hV hnum hqV e1 e2 HS HA hin
          go_wp2
          go_ret2
          exact ⟨ret2 (vint E2.out.symm) (vint E1.out.symm), rfl⟩
        · have e1 : pe s.data.toList = 9 := by unfold pe; rw [if_pos hok, hnum, if_neg (by unfold Sat at hsat; omega)]
          have e2 : pv s.data.toList = 0 := by unfold pv; rw [e1]; rfl
          have E1 := Lib.hid e1; have E2 := Lib.hid e2
          have hin' : 4611686018427387904 < (q : Int) := by omega
          clear htk hok hsat hV hnum e1 e2 HS HA hin
          by_cases hmid : 4611686018427387904 < (q : Int)
          all_goals
            go_wp2
            go_ret2
            exact ⟨ret2 (vint E2.out.symm) (vint E1.out.symm), rfl⟩
theorem rparse_any (s : ByteArray) (w : World) (hs : s.size ≤ 281474976710656) :
    Calls Tryd.prog 34 #[.string s] w (Done (.tuple #[.int .i64 (pv s.data.toList), .int .i64 (pe s.data.toList)]) w) := by
  have hz : s.data.toList.length = s.size := rfl
  rcases digs_cases s.data.toList with ⟨r, e1, e2, e3⟩ | ⟨e2, e3⟩
  · refine rparse_1 s w hs (by rw [← hz, e1]; simp) (fun h => ?_) (by rw [e2, e1]; rfl) e3
    have : s[0] = s.data.toList[0]'(by rw [hz]; exact h) := rfl
    rw [this]
    simp [e1]
  · refine rparse_0 s w hs trivial (fun h => ?_) (by rw [e2]; rfl) e3
    exact neg_first s.data.toList e3 (by rw [hz]; exact h)
end Sm
end Go.Proofs.YtmmgpmdjpbalfaaDoor
