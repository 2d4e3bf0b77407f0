/- ScriptJoins: the walk. -/
import Derived.Test.YtaaknnmnkgnbjaaDoorScWa
import Derived.Deep.DeepCutAuto
import Derived.Deep.CutBlock
set_option linter.unusedVariables false
namespace Go.Proofs.YtaaknnmnkgnbjaaDoor
open Go.RowKit
namespace Sc
open Bs Sm
def cutB (s : ByteArray) (n : Nat) : ByteArray := if n < s.size then s.extract 0 n else s
theorem cutB_le (s : ByteArray) (n : Nat) : (cutB s n).size ≤ n := by
  unfold cutB; split
  · rw [ByteArray.size_extract]; omega
  · omega
/-- What Parse hands back, its slice spelled. -/
def Pars2 (x : Except (Nat × Int) (List Cmd)) (w : World) (e : Ending) (w' : World) : Prop :=
  Below w.heap.size w w' ∧ match x with
  | .error (i, n) => e = .returned (.tuple #[.slice none 0 0, .int .i64 (i : Int), .int .i64 n]) ∧ n ≠ 0
  | .ok cs => ∃ o c, e = .returned (.tuple #[.slice o cs.length c, .int .i64 0, .int .i64 0]) ∧ Cmds CmT w.heap.size (.slice o cs.length c) cs w'
theorem parsed_form {x : Except (Nat × Int) (List Cmd)} {w w' : World} {e : Ending} (h : Parsed x w e w') : Pars2 x w e w' := by
  obtain ⟨hb, hm⟩ := h
  refine ⟨hb, ?_⟩
  cases x with
  | error z => obtain ⟨i, n⟩ := z; exact hm
  | ok cs =>
    obtain ⟨v, rfl, hC⟩ := hm
    have hC0 := hC
    obtain ⟨cl, hcl, hown, hfl⟩ := hC0
    obtain ⟨o, c, rfl, -⟩ := own_slice hown
    have e : cl.length = cs.length := by rw [← hcl, List.length_map]
    rw [e] at hC
    exact ⟨o, c, by rw [e], hC⟩
theorem wpList_joinW {P : Program} (w : World) {ops : Array Oper} {rest : List Oper} {o : Oper} {a : Act} {Q : Exit → Act → World → Prop} (hw : Region.wanted o (yielded ops a.tmps) = true) (s x : Operand) (t e : TypeId)
    (hop : o.op = Op.call { callee := Callee.builtin Builtin.append, args := #[s, x], argTypes := #[t, t] }) (tsl : P.underlying t = some (.slice e)) (i0 : TypeInfo) (z : Value) (size bytes : Nat)
    (h2 : P.info? e = some i0) (h3 : i0.zero = some z) (h4 : i0.size = size) (h5 : i0.bytes = bytes) (h6 : z.cells.size = size) (h7 : 0 < size) {B0 B n m : Nat} {v xv : Value} {xs ys : List Value}
    (hd : w.ownsRow B0 e size v n xs) (hs : a.eval s = v) (hx : a.eval x = xv) (hsrc : w.ownsRow B e size xv m ys) (hone : ∀ u ∈ ys, u.oneCell' = true) (b1 : n + m ≤ maxLen) (b2 : (n + m) * bytes ≤ 140737488355328) (hB : B0 ≤ w.heap.size)
    (hK : ∀ v' w', w'.ownsRow B0 e size v' (n + m) (xs ++ ys) → w.grownBy w' v.ownBlock → Near w v v' → wpList P ops Q rest (a.put o.dst v') w') :
    wpList P ops Q (o :: rest) a w := by
  refine Go.BigFrame.wpList_want hw fun K' hK' => ?_
  obtain ⟨v', w', hrun, r1, r2, r3⟩ := run_join t o.type e tsl i0 z size bytes h2 h3 h4 h5 h6 h7 hd hsrc hone b1 b2 hB
  unfold Oper.wp
  simp [execOp, hop, resolve, invoke, builtin, hs, hx, hrun, Result.andThen]
  exact hK' _ _ (hK v' w' r1 r2 r3)
theorem lines_le : ∀ (l : List Bytes) (i : Nat) (cs : List Cmd), linesR l i = .ok cs → cs.length ≤ l.length
  | [], i, cs, h => by cases h; simp
  | x :: t, i, cs, h => by
    rw [lines_cons] at h
    cases hw : wordsR (aheadR x) with
    | nil =>
      rw [hw] at h
      have := lines_le t (i + 1) cs h
      rw [List.length_cons]; omega
    | cons w args =>
      rw [hw] at h
      dsimp only at h
      cases hr : readW (kindF 8 w) args with
      | error e => rw [hr] at h; cases h
      | ok c =>
        rw [hr] at h
        dsimp only at h
        cases ht : linesR t (i + 1) with
        | error e => rw [ht] at h; cases h
        | ok ds =>
          rw [ht] at h
          cases h
          have := lines_le t (i + 1) ds ht
          rw [List.length_cons, List.length_cons]; omega
theorem parse_le {s : Bytes} {cs : List Cmd} (h : parseR s = .ok cs) : cs.length ≤ 65537 := by
  unfold parseR at h
  split at h
  · cases h
  · have h1 := lines_le _ _ _ h
    rw [sp1_len] at h1
    have h2 : s.count 10 ≤ s.length := List.count_le_length
    omega
theorem parse_err {s : Bytes} {i : Nat} {e : Int} (h : parseR s = .error (i, e)) : i ≤ 65537 := by
  have hl : ∀ (l : List Bytes) (k i : Nat) (e : Int), linesR l k = .error (i, e) → i ≤ k + l.length := by
    intro l
    induction l with
    | nil => intro k i e h; cases h
    | cons x t ih =>
      intro k i e h
      rw [lines_cons] at h
      cases hw : wordsR (aheadR x) with
      | nil => rw [hw] at h; have := ih (k + 1) i e h; rw [List.length_cons]; omega
      | cons w args =>
        rw [hw] at h
        dsimp only at h
        cases hr : readW (kindF 8 w) args with
        | error e' => rw [hr] at h; cases h; omega
        | ok c =>
          rw [hr] at h
          dsimp only at h
          cases ht : linesR t (k + 1) with
          | error z =>
            obtain ⟨i', e'⟩ := z
            rw [ht] at h; cases h
            have := ih (k + 1) i e ht
            rw [List.length_cons]; omega
          | ok ds => rw [ht] at h; cases h
  unfold parseR at h
  split at h
  · cases h; omega
  · have h1 := hl _ _ _ _ h
    rw [sp1_len] at h1
    have h2 : s.count 10 ≤ s.length := List.count_le_length
    omega
set_option maxRecDepth 100000 in
set_option maxHeartbeats 3200000 in
theorem joins_walk (a b : ByteArray) (w : World) (_ : a.size ≤ 9223372036854775807) (_ : b.size ≤ 9223372036854775807) (hev : ErrVar w) (hp : Pow10 w) (hm : MaxV w) : Calls Tryd.prog 4 #[.string a, .string b] w (Back (.bool true) w) := by
  obtain ⟨A1, hA1, hA5⟩ : ∃ A1 : ByteArray, cutB a 3000 = A1 ∧ A1.size ≤ 3000 := ⟨_, rfl, cutB_le a 3000⟩
  obtain ⟨B1, hB1, hB5⟩ : ∃ B1 : ByteArray, cutB b 3000 = B1 ∧ B1.size ≤ 3000 := ⟨_, rfl, cutB_le b 3000⟩
  have HR := Lib.hid (fun (s : ByteArray) v (h : ErrVar v) (h2 : Pow10 v) (h3 : MaxV v) => (parse_any s v h h2 h3).mono (fun _ _ h => parsed_form h))
  have HEV := Lib.hid hev
  have HP := Lib.hid hp
  have HM := Lib.hid hm
  have HA1 := Lib.hid hA1
  have HB1 := Lib.hid hB1
  clear hev hp hm hA1 hB1
  obtain ⟨EA, hEA⟩ : ∃ E, parseR A1.data.toList = E := ⟨_, rfl⟩
  obtain ⟨EB, hEB⟩ : ∃ E, parseR B1.data.toList = E := ⟨_, rfl⟩
  have HEA := Lib.hid hEA
  have HEB := Lib.hid hEB
  have hRA := HR.out A1
  have hRB := HR.out B1
  rw [hEA] at hRA
  rw [hEB] at hRB
  have HRA := Lib.hid hRA
  have HRB := Lib.hid hRB
  clear hEA hEB hRA hRB
  obtain ⟨iJ, hiJ, hJ0, hJ1, hJ2⟩ := info_parts (show (Tryd.prog.info? RcT).map (fun i => (i.zero, i.size, i.bytes)) = some (some (.agg #[.int .i64 0, .int .i64 0, .int .i64 0, .slice none 0 0, .slice none 0 0]), 5, 72) by kernel_rfl)
  have tsl : Tryd.prog.underlying 22 = some (.slice RcT) := by kernel_rfl
  go_enter Tryd.func4, Tryd.ntmps4
  go_wp2_with fail
  refine (awake_any _ HEV.out HP.out HM.out).mono ?_; rintro e w1 ⟨rfl, hb1⟩
  go_upto_if 20 with fail
  go_cut [0] (fun s0 wx => s0 = .string A1 ∧ wx = w1)
  case first =>
    have hA1 := HA1.out
    unfold cutB at hA1
    by_cases hA : 3000 < a.size
    · rw [if_pos hA] at hA1
      have hdA : decide ((3000 : Int) < (a.size : Int)) = true := decide_eq_true (by omega)
      have hxA : 3000 ≤ a.size := by omega
      go_wp2_with fail
      go_meet
      exact ⟨rfl, rfl⟩
    · rw [if_neg hA] at hA1
      have hdA : decide ((3000 : Int) < (a.size : Int)) = false := decide_eq_false (by omega)
      go_wp2_with fail
      go_meet
      exact ⟨by rw [hA1], rfl⟩
  case rest =>
  obtain ⟨rfl, hwc⟩ := hcut
  rw [hwc]
  clear hwc
  go_upto_if 25 with fail
  go_cut [1] (fun s0 wx => s0 = .string B1 ∧ wx = w1)
  case first =>
    have hA1 := HB1.out
    unfold cutB at hA1
    by_cases hA : 3000 < b.size
    · rw [if_pos hA] at hA1
      have hdA : decide ((3000 : Int) < (b.size : Int)) = true := decide_eq_true (by omega)
      have hxA : 3000 ≤ b.size := by omega
      go_wp2_with fail
      go_meet
      exact ⟨rfl, rfl⟩
    · rw [if_neg hA] at hA1
      have hdA : decide ((3000 : Int) < (b.size : Int)) = false := decide_eq_false (by omega)
      go_wp2_with fail
      go_meet
      exact ⟨by rw [hA1], rfl⟩
  case rest =>
  obtain ⟨rfl, hwc⟩ := hcut
  rw [hwc]
  clear hwc
  go_wp2_with fail
  refine (HRA.out _ (HEV.out.below hb1) (HP.out.below hb1) (HM.out.below hb1)).mono ?_; rintro e w2 ⟨hb2, hm2⟩
  have hb2 := hb1.trans (hb2.mono hb1.size)
  have HM2 := Lib.hid hm2
  clear hm2
  cases EA with
  | error y =>
    obtain ⟨p, n⟩ := y
    obtain ⟨rfl, hn⟩ := HM2.out
    have hnb : (n != 0) = true := by simpa using hn
    go_wp2_with fail
    refine (HRB.out _ (HEV.out.below hb2) (HP.out.below hb2) (HM.out.below hb2)).mono ?_; rintro e w3 ⟨hb3, hm3⟩
    have hb3 := hb2.trans (hb3.mono hb2.size)
    cases EB with
    | error z =>
      obtain ⟨q, m⟩ := z
      obtain ⟨rfl, hm⟩ := hm3
      go_wp2_with fail
      go_ret
      exact ⟨rfl, hb3⟩
    | ok ds =>
      obtain ⟨o, c, rfl, -⟩ := hm3
      go_wp2_with fail
      go_ret
      exact ⟨rfl, hb3⟩
  | ok cs =>
    obtain ⟨xo, xc, rfl, hX⟩ := HM2.out
    have hjn := parse_join (a := A1.data.toList) (b := B1.data.toList) HEA.out (by rw [List.length_append, List.length_cons]; show A1.size + (B1.size + 1) ≤ _; omega)
    rw [HEB.out] at hjn
    have HJN := Lib.hid hjn
    have hX2 := hX
    clear hjn hX HM2
    go_wp2_with fail
    refine (HRB.out _ (HEV.out.below hb2) (HP.out.below hb2) (HM.out.below hb2)).mono ?_; rintro e w3 ⟨hb3, hm3⟩
    have HX3 := Lib.hid (hX2.below hb3)
    have hb3 := hb2.trans (hb3.mono hb2.size)
    have HM3 := Lib.hid hm3
    clear hX2 hm3
    cases EB with
    | error z =>
      obtain ⟨q, m⟩ := z
      obtain ⟨rfl, hm⟩ := HM3.out
      have hmb : (m != 0) = true := by simpa using hm
      have hq6 := parse_err HEB.out
      have hJN' := HJN.out
      dsimp only at hJN'
      clear HM3 HX3
      go_wp2_with fail
      go_loopw [11, 44] (fun q y wr => ∃ i : Nat, y = .int .i64 (i : Int) ∧ i ≤ A1.size ∧ q = .int .i64 ((1 + (A1.data.toList.take i).count 10 : Nat) : Int) ∧ wr = w3) (fun _ y _ => A1.size - (intOf y).toNat)
      case atStart => exact ⟨0, rfl, Nat.zero_le _, by rw [List.take_zero]; rfl, rfl⟩
      case round =>
        obtain ⟨i, rfl, hi, rfl, hwr⟩ := hrel
        subst hwr
        by_cases hin : i < A1.size
        · have hdi : decide ((i : Int) < (A1.size : Int)) = true := by simpa using hin
          have hiw : IntKind.i64.wrap ((i : Int) + 1) = (i : Int) + 1 := IntWalk.i64_in _ (by omega)
          have htk : A1.data.toList.take (i + 1) = A1.data.toList.take i ++ [A1[i]] := take_snoc (List.getElem?_eq_getElem (show i < A1.data.toList.length from hin))
          have hcl : (A1.data.toList.take i).count 10 ≤ 3000 := by
            have h1 : (A1.data.toList.take i).count 10 ≤ (A1.data.toList.take i).length := List.count_le_length
            rw [List.length_take] at h1; omega
          obtain ⟨ci, hci⟩ : ∃ c, A1[i] = c := ⟨_, rfl⟩
          obtain ⟨q, hq⟩ : ∃ q, (A1.data.toList.take i).count 10 = q := ⟨_, rfl⟩
          have hq1 : (A1.data.toList.take (i + 1)).count 10 = q + if ci = 10 then 1 else 0 := by
            rw [htk, List.count_append, hq, hci]; congr 1; by_cases h : ci = 10 <;> simp [h]
          rw [hq] at hcl ⊢
          have HQ1 := Lib.hid hq1
          clear htk hq hq1
          have hqw : IntKind.i64.wrap (((1 + q : Nat) : Int) + 1) = ((1 + (q + 1) : Nat) : Int) := by rw [show (((1 + q : Nat) : Int) + 1) = ((1 + (q + 1) : Nat) : Int) by omega]; exact IntWalk.i64_in _ (by omega)
          obtain ⟨lq, hlq⟩ : ∃ l : Nat, 1 + q = l := ⟨_, rfl⟩
          have HLQ := Lib.hid hlq
          rw [hlq] at hqw ⊢
          clear hlq
          by_cases hc : ci = 10
          · have hb : ((ci.toNat : Int) == 10) = true := by rw [hc]; rfl
            have HC := Lib.hid hc
            clear hc
            go_wp2_with fail
            exact ⟨⟨i + 1, by simp, by omega, vint (by have := HQ1.out; rw [if_pos HC.out] at this; have := HLQ.out; omega), by first | rfl | trivial⟩, by simp only [intOf]; omega⟩
          · have hb : ((ci.toNat : Int) == 10) = false := u8_ne hc
            have HC := Lib.hid hc
            clear hc
            go_wp2_with fail
            exact ⟨⟨i + 1, by simp, by omega, vint (by have := HQ1.out; rw [if_neg HC.out] at this; have := HLQ.out; omega), by first | rfl | trivial⟩, by simp only [intOf]; omega⟩
        · obtain rfl : i = A1.size := by omega
          have hdi : decide ((A1.size : Int) < (A1.size : Int)) = false := by simp
          rw [show A1.data.toList.take A1.size = A1.data.toList from List.take_of_length_le (Nat.le_refl _)]
          obtain ⟨lq, hlq⟩ : ∃ l : Nat, 1 + A1.data.toList.count 10 = l := ⟨_, rfl⟩
          have HLQ := Lib.hid hlq
          have hlq3 : lq ≤ 3001 := by
            have h1 : A1.data.toList.count 10 ≤ A1.data.toList.length := List.count_le_length
            have h2 : A1.data.toList.length = A1.size := rfl
            omega
          rw [hlq]
          clear hlq
          obtain ⟨AJ, hAJ⟩ : ∃ AJ : ByteArray, A1 ++ (⟨#[10]⟩ : ByteArray) = AJ := ⟨_, rfl⟩
          have hc1 : A1.size + (⟨#[10]⟩ : ByteArray).size ≤ 9223372036854775807 := by show A1.size + 1 ≤ _; omega
          have hAJs : AJ.size ≤ 3001 := by rw [← hAJ, ByteArray.size_append]; show A1.size + 1 ≤ _; omega
          obtain ⟨ZZ, hZZ⟩ : ∃ ZZ, AJ ++ B1 = ZZ := ⟨_, rfl⟩
          have hzz : ZZ.data.toList = A1.data.toList ++ 10 :: B1.data.toList := by rw [← hZZ, ← hAJ]; simp [ByteArray.data_append]
          have hRZ := HR.out ZZ
          rw [hzz, hJN'] at hRZ
          have HRZ := Lib.hid hRZ
          clear hzz hRZ
          go_wp2_with fail
          refine (HRZ.out _ (HEV.out.below hb3) (HP.out.below hb3) (HM.out.below hb3)).mono ?_; rintro e w4 ⟨hb4, rfl, -⟩
          have hb4 := hb3.trans (hb4.mono hb3.size)
          obtain ⟨T, hT⟩ : ∃ T : Nat, A1.data.toList.count 10 + 1 + q = T := ⟨_, rfl⟩
          have hlw : IntKind.i64.wrap ((lq : Int) + (q : Int)) = (T : Int) := by rw [show ((lq : Int) + (q : Int)) = (T : Int) by have := HLQ.out; omega]; exact IntWalk.i64_in _ (by have := HLQ.out; omega)
          rw [hT]
          clear hT HRZ hJN' HJN hAJ hZZ
          go_wp2_with fail
          go_ret
          exact ⟨rfl, hb4⟩
    | ok ds =>
      obtain ⟨yo, yc, rfl, hY⟩ := HM3.out
      have HY3 := Lib.hid hY
      have hJN' := HJN.out
      dsimp only at hJN'
      clear HM3 hY
      go_wp2_with fail
      go_loopw [11, 44] (fun q y wr => ∃ i : Nat, y = .int .i64 (i : Int) ∧ i ≤ A1.size ∧ q = .int .i64 ((1 + (A1.data.toList.take i).count 10 : Nat) : Int) ∧ wr = w3) (fun _ y _ => A1.size - (intOf y).toNat)
      case atStart => exact ⟨0, rfl, Nat.zero_le _, by rw [List.take_zero]; rfl, rfl⟩
      case round =>
        obtain ⟨i, rfl, hi, rfl, hwr⟩ := hrel
        subst hwr
        by_cases hin : i < A1.size
        · have hdi : decide ((i : Int) < (A1.size : Int)) = true := by simpa using hin
          have hiw : IntKind.i64.wrap ((i : Int) + 1) = (i : Int) + 1 := IntWalk.i64_in _ (by omega)
          have htk : A1.data.toList.take (i + 1) = A1.data.toList.take i ++ [A1[i]] := take_snoc (List.getElem?_eq_getElem (show i < A1.data.toList.length from hin))
          have hcl : (A1.data.toList.take i).count 10 ≤ 3000 := by
            have h1 : (A1.data.toList.take i).count 10 ≤ (A1.data.toList.take i).length := List.count_le_length
            rw [List.length_take] at h1; omega
          obtain ⟨ci, hci⟩ : ∃ c, A1[i] = c := ⟨_, rfl⟩
          obtain ⟨q, hq⟩ : ∃ q, (A1.data.toList.take i).count 10 = q := ⟨_, rfl⟩
          have hq1 : (A1.data.toList.take (i + 1)).count 10 = q + if ci = 10 then 1 else 0 := by
            rw [htk, List.count_append, hq, hci]; congr 1; by_cases h : ci = 10 <;> simp [h]
          rw [hq] at hcl ⊢
          have HQ1 := Lib.hid hq1
          clear htk hq hq1
          have hqw : IntKind.i64.wrap (((1 + q : Nat) : Int) + 1) = ((1 + (q + 1) : Nat) : Int) := by rw [show (((1 + q : Nat) : Int) + 1) = ((1 + (q + 1) : Nat) : Int) by omega]; exact IntWalk.i64_in _ (by omega)
          obtain ⟨lq, hlq⟩ : ∃ l : Nat, 1 + q = l := ⟨_, rfl⟩
          have HLQ := Lib.hid hlq
          rw [hlq] at hqw ⊢
          clear hlq
          by_cases hc : ci = 10
          · have hb : ((ci.toNat : Int) == 10) = true := by rw [hc]; rfl
            have HC := Lib.hid hc
            clear hc
            go_wp2_with fail
            exact ⟨⟨i + 1, by simp, by omega, vint (by have := HQ1.out; rw [if_pos HC.out] at this; have := HLQ.out; omega), by first | rfl | trivial⟩, by simp only [intOf]; omega⟩
          · have hb : ((ci.toNat : Int) == 10) = false := u8_ne hc
            have HC := Lib.hid hc
            clear hc
            go_wp2_with fail
            exact ⟨⟨i + 1, by simp, by omega, vint (by have := HQ1.out; rw [if_neg HC.out] at this; have := HLQ.out; omega), by first | rfl | trivial⟩, by simp only [intOf]; omega⟩
        · obtain rfl : i = A1.size := by omega
          have hdi : decide ((A1.size : Int) < (A1.size : Int)) = false := by simp
          rw [show A1.data.toList.take A1.size = A1.data.toList from List.take_of_length_le (Nat.le_refl _)]
          obtain ⟨lq, hlq⟩ : ∃ l : Nat, 1 + A1.data.toList.count 10 = l := ⟨_, rfl⟩
          have HLQ := Lib.hid hlq
          have hlq3 : lq ≤ 3001 := by
            have h1 : A1.data.toList.count 10 ≤ A1.data.toList.length := List.count_le_length
            have h2 : A1.data.toList.length = A1.size := rfl
            omega
          rw [hlq]
          clear hlq
          obtain ⟨AJ, hAJ⟩ : ∃ AJ : ByteArray, A1 ++ (⟨#[10]⟩ : ByteArray) = AJ := ⟨_, rfl⟩
          have hc1 : A1.size + (⟨#[10]⟩ : ByteArray).size ≤ 9223372036854775807 := by show A1.size + 1 ≤ _; omega
          have hAJs : AJ.size ≤ 3001 := by rw [← hAJ, ByteArray.size_append]; show A1.size + 1 ≤ _; omega
          obtain ⟨ZZ, hZZ⟩ : ∃ ZZ, AJ ++ B1 = ZZ := ⟨_, rfl⟩
          have hzz : ZZ.data.toList = A1.data.toList ++ 10 :: B1.data.toList := by rw [← hZZ, ← hAJ]; simp [ByteArray.data_append]
          have hRZ := HR.out ZZ
          rw [hzz, hJN'] at hRZ
          have HRZ := Lib.hid hRZ
          clear hzz hRZ
          go_wp2_with fail
          refine (HRZ.out _ (HEV.out.below hb3) (HP.out.below hb3) (HM.out.below hb3)).mono ?_; rintro e w4 ⟨hb4, zo, zc, rfl, hZ⟩
          have HX4 := Lib.hid ((HX3.out.below hb4).mono hb1.size)
          have HY4 := Lib.hid ((HY3.out.below hb4).mono hb2.size)
          rw [List.length_append] at hZ
          have HZ4 := Lib.hid (hZ.mono hb3.size)
          have hb4 := hb3.trans (hb4.mono hb3.size)
          have HLA := Lib.hid (parse_le HEA.out)
          have HLB := Lib.hid (parse_le HEB.out)
          clear HRZ hJN' HJN hAJ hZZ hZ HX3 HY3
          go_wp2_with fail
          refine (told_any (B0 := w.heap.size) _ _ _ HZ4.out (Nat.le_refl _) hb4.size (by have := HLA.out; have := HLB.out; rw [List.length_append]; omega)).mono ?_; rintro e w5 ⟨hb5, vz, rfl, hz5, hzn⟩
          have HX5 := Lib.hid (HX4.out.below hb5)
          have HY5 := Lib.hid (HY4.out.below hb5)
          have HZ5 := Lib.hid hz5
          have hb5w := hb4.trans (hb5.mono hb4.size)
          clear hz5 hb5
          go_wp2_with fail
          refine (told_any (B0 := w.heap.size) _ _ _ HX5.out (Nat.le_refl _) hb5w.size (by have := HLA.out; omega)).mono ?_; rintro e w6 ⟨hb6, vx, rfl, hx6, hxn⟩
          have HY6 := Lib.hid (HY5.out.below hb6)
          have HZ6 := Lib.hid (HZ5.out.below hb6)
          have HX6 := Lib.hid hx6
          have hap : Apart vx vz := fun k h1 h2 => by have := (hxn k h1).1; have := (hzn k h2).2; omega
          have hb6w := hb5w.trans (hb6.mono hb5w.size)
          have HAP := Lib.hid hap
          clear hx6 hb6 hap hxn hzn
          go_wp2_with fail
          refine (told_any (B0 := w.heap.size) _ _ _ HY6.out (Nat.le_refl _) hb6w.size (by have := HLB.out; omega)).mono ?_; rintro e w7 ⟨hb7, vy, rfl, hy7, -⟩
          have hb7w := hb6w.trans (hb7.mono hb6w.size)
          obtain ⟨lx, hlx, hox, hfx⟩ := HX6.out.below hb7
          obtain ⟨ly, hly, hoy, hfy⟩ := hy7
          obtain ⟨lz, hlz, hoz, hfz⟩ := HZ6.out.below hb7
          have hlx' : lx.length ≤ 65537 := by have h := congrArg List.length hlx; rw [List.length_map] at h; have := HLA.out; omega
          have hly' : ly.length ≤ 65537 := by have h := congrArg List.length hly; rw [List.length_map] at h; have := HLB.out; omega
          have HLX := Lib.hid hlx
          have HLY := Lib.hid hly
          have HLZ := Lib.hid hlz
          have HOX := Lib.hid hox
          have HOY := Lib.hid hoy
          have HOZ := Lib.hid hoz
          have HFX := Lib.hid hfx
          have HFY := Lib.hid hfy
          have HFZ := Lib.hid hfz
          have hone : ∀ u ∈ flatM ly, u.oneCell' = true := fun u hu => by
            obtain ⟨y, hy, hu⟩ := List.mem_flatMap.1 hu
            obtain ⟨f1, f2⟩ := hfy y hy
            obtain ⟨o1, c1, e1, -⟩ := own_slice f1
            obtain ⟨o2, c2, e2, -⟩ := own_slice f2
            simp only [cellsM, List.mem_cons, List.mem_nil_iff, or_false] at hu
            rcases hu with rfl | rfl | rfl | h | h
            · rfl
            · rfl
            · rfl
            · rw [h, e1]; rfl
            · rw [h, e2]; rfl
          have HONE := Lib.hid hone
          clear hlx hly hlz hox hoy hoz hfx hfy hfz hone hb7 HX6 HY6 HZ6
          go_wp2_with (at_builtin; refine wpList_joinW _ ?hw _ _ 22 RcT rfl tsl iJ (.agg #[.int .i64 0, .int .i64 0, .int .i64 0, .slice none 0 0, .slice none 0 0]) 5 72 hiJ hJ0 hJ1 hJ2 rfl (by decide) HOX.out rfl rfl HOY.out HONE.out ?c1 ?c2 ?c3 ?_)
          case c1 => unfold maxLen; omega
          case c2 => omega
          case c3 => exact hb7w.size
          intro vj w8 hown8 hg8 _
          have HZ8 := Lib.hid (show Cmds RcT w.heap.size vz (cs ++ ds) w8 from ⟨lz, HLZ.out, World.ownsRow.kept HOZ.out hg8 HAP.out.kept, fun x hx => ⟨own_grown (HFZ.out x hx).1 hg8 HOX.out (by decide), own_grown (HFZ.out x hx).2 hg8 HOX.out (by decide)⟩⟩)
          have HJ8 := Lib.hid (show Cmds RcT w.heap.size vj (cs ++ ds) w8 from ⟨lx ++ ly, by rw [List.map_append, HLX.out, HLY.out], by rw [List.length_append, show flatM (lx ++ ly) = flatM lx ++ flatM ly by unfold flatM; simp]; exact hown8, fun x hx => by
            rcases List.mem_append.1 hx with hx | hx
            · exact ⟨own_grown (HFX.out x hx).1 hg8 HOX.out (by decide), own_grown (HFX.out x hx).2 hg8 HOX.out (by decide)⟩
            · exact ⟨own_grown (HFY.out x hx).1 hg8 HOX.out (by decide), own_grown (HFY.out x hx).2 hg8 HOX.out (by decide)⟩⟩)
          have hb8 := hb7w.grown hg8 hb7w.size (fun k hk => (HOX.out.lt k hk).1)
          clear hown8 hg8
          go_wp2_with fail
          refine (same_any HZ8.out HJ8.out).mono ?_; rintro e w9 ⟨rfl, hb9⟩
          have hb9w := hb8.trans (hb9.mono hb8.size)
          go_wp2_with fail
          go_ret
          exact ⟨rfl, hb9w⟩
end Sc
end Go.Proofs.YtaaknnmnkgnbjaaDoor
