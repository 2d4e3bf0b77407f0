/- Package lex, the walk, 17: All. -/
import Derived.Test.YthdigbkcffihkaaGreatDoorLxW16
import Derived.Test.YthdigbkcffihkaaGreatDoorLxErr
set_option linter.unusedVariables false
namespace Go.Proofs.YthdigbkcffihkaaGreatDoor
open Go.RowKit
namespace Lx
def cellsT (t : Tok) : List Value := [.int .i64 (t.kind : Int), .string ⟨t.word.toArray⟩, .int .i64 t.num, .int .i64 (t.at_ : Int)]
/-- The cells of tokens in a row. -/
def flat (l : List Tok) : List Value := l.flatMap cellsT
theorem flat_len (l : List Tok) : (flat l).length = l.length * 4 := by
  induction l with
  | nil => rfl
  | cons t l ih => unfold flat at ih ⊢; rw [List.flatMap_cons, List.length_append, ih]; simp [cellsT]; omega
theorem flat_snoc (l : List Tok) (t : Tok) : flat (l ++ [t]) = flat l ++ cellsT t := by unfold flat; simp
def glue (l0 : List Tok) (x : Except Err (List Tok)) : Except Err (List Tok) :=
  match x with
  | .error e => .error e
  | .ok l => .ok (l0 ++ l)
/-- What All hands back. -/
def Alled (x : Except Err (List Tok)) (w : World) (e : Ending) (w' : World) : Prop :=
  Below w.heap.size w w' ∧ match x with
  | .error (p, n) => e = .returned (.tuple #[.slice none 0 0, .int .i64 (p : Int), .int .i64 n])
  | .ok l => ∃ v, e = .returned (.tuple #[v, .int .i64 0, .int .i64 0]) ∧ w'.ownsRow w.heap.size TT 4 v l.length (flat l)
theorem own_below {w w' : World} {base e size n : Nat} {v : Value} {xs : List Value} (h : w.ownsRow base e size v n xs) (hb : Below w.heap.size w w') : w'.ownsRow base e size v n xs := by
  obtain ⟨h1, h2⟩ := h
  refine ⟨h1, ?_⟩
  rcases h2 with hn | ⟨g, cap, cur, rfl, hbg, hg, rest⟩
  · exact .inl hn
  · exact .inr ⟨g, cap, cur, rfl, hbg, (hb.block g (Array.getElem?_eq_some_iff.1 hg).1).trans hg, rest⟩
theorem cells4 (W : World) (T : TypeId) (v0 v1 v2 v3 : Value) : ∀ j u, [v0, v1, v2, v3][j]? = some u → (W.alloc (.cells #[v0, v1, v2, v3] T)).cell? ((⟨W.heap.size, 0, none⟩ : Addr).add j) = some u := by
  intro j u hj
  match j, hj with
  | 0, hj => simp at hj; subst hj; simp [Addr.add]
  | 1, hj => simp at hj; subst hj; simp [Addr.add]
  | 2, hj => simp at hj; subst hj; simp [Addr.add]
  | 3, hj => simp at hj; subst hj; simp [Addr.add]
  | n + 4, hj => simp at hj
/-- What a round of All comes to. -/
def Step (S : Bytes) (a : Nat) (l0 : List Tok) (E : Except Err (List Tok)) (x : Except Err (Tok × Nat)) : Prop :=
  match x with
  | .error (p, e) => E = .error (a + p, e)
  | .ok (t, n) => if t.kind = 0 then E = .ok (l0 ++ [{ t with at_ := a + t.at_ }]) else a + n ≤ S.length ∧ 0 < n ∧ ∃ f', S.length - (a + n) < f' ∧ Hid (glue (l0 ++ [{ t with at_ := a + t.at_ }]) (allF f' (a + n) (S.drop (a + n))) = E)
theorem all_step (S : Bytes) (a f : Nat) (l0 : List Tok) (E : Except Err (List Tok)) (ha : a ≤ S.length) (hf : S.length - a < f) (h : glue l0 (allF f a (S.drop a)) = E) : Step S a l0 E (nextR (S.drop a)) := by
  cases f with
  | zero => omega
  | succ f =>
    simp only [allF] at h
    unfold Step
    cases hn : nextR (S.drop a) with
    | error y =>
      obtain ⟨p, e⟩ := y
      rw [hn] at h
      exact h.symm
    | ok y =>
      obtain ⟨t, n⟩ := y
      rw [hn] at h
      simp only at h ⊢
      by_cases hk : t.kind = 0
      · rw [if_pos hk] at h ⊢
        exact h.symm
      · rw [if_neg hk] at h ⊢
        obtain ⟨h1, h2⟩ := (nextR_ok _ t n hn).2 hk
        rw [List.length_drop] at h2
        refine ⟨by omega, h1, f, by omega, Lib.hid ?_⟩
        rw [List.drop_drop] at h
        cases hr : allF f (a + n) (S.drop (a + n)) with
        | error z => rw [hr] at h; exact h
        | ok l =>
          rw [hr] at h
          rw [← h]
          simp [glue]
set_option maxRecDepth 100000 in
set_option maxHeartbeats 1600000 in
theorem All_any (s : ByteArray) (w : World) (hs : s.size ≤ 1099511627776) (hv : ErrVar w) :
    Calls Tryz.prog 36 #[.string s] w (Alled (allR s.data.toList) w) := by
  obtain ⟨E, hE⟩ : ∃ E, allR s.data.toList = E := ⟨_, rfl⟩
  rw [hE]
  have hE0 : glue [] (allF (s.size + 1) 0 (s.data.toList.drop 0)) = E := by
    rw [← hE]; unfold allR
    rw [List.drop_zero]
    show glue [] (allF (s.data.toList.length + 1) 0 s.data.toList) = _
    cases allF (s.data.toList.length + 1) 0 s.data.toList <;> rfl
  have HE0 := Lib.hid hE0
  have HV := Lib.hid hv
  clear hE hE0 hv
  obtain ⟨i0, hi, hz0, hz1, hz2⟩ := info_parts (show (Tryz.prog.info? TT).map (fun i => (i.zero, i.size, i.bytes)) = some (some (.agg #[.int .i64 0, .string ⟨#[]⟩, .int .i64 0, .int .i64 0]), 4, 40) by kernel_rfl)
  have tsl : Tryz.prog.underlying 93 = some (.slice TT) := by kernel_rfl
  go_enter Tryz.func36, Tryz.ntmps36
  go_wp2
  go_loopw [2, 3] (fun v y wr => ∃ (a f : Nat) (l0 : List Tok), y = .int .i64 (a : Int) ∧ a ≤ s.size ∧ l0.length ≤ a ∧ s.size - a < f ∧ Hid (glue l0 (allF f a (s.data.toList.drop a)) = E) ∧ wr.ownsRow w.heap.size TT 4 v l0.length (flat l0) ∧ Below w.heap.size w wr) (fun _ y _ => s.size - (intOf y).toNat)
  case atStart => exact ⟨0, s.size + 1, [], rfl, Nat.zero_le _, Nat.le_refl _, by omega, HE0, World.ownsRow_nil w _ _ _, Below.refl _ _⟩
  case round =>
    obtain ⟨a, f, l0, rfl, ha, hl0, hf, HE, hown, hbel⟩ := hrel
    have hmx : max 0 (min (a : Int) (s.size : Int)) = (a : Int) := by omega
    have hst := all_step s.data.toList a f l0 E ha hf HE.out
    have hN := Next_any s (a : Int) a wr (by omega) hmx (HV.out.below hbel)
    obtain ⟨x, hx⟩ : ∃ x, nextR (s.data.toList.drop a) = x := ⟨_, rfl⟩
    have herr := fun p n => nextR_err (s.data.toList.drop a) p n
    rw [hx] at hN hst herr
    have HN := Lib.hid hN
    have HST := Lib.hid hst
    clear hN hx hst hmx
    go_wp2_with fail
    refine HN.out.mono ?_; intro e w1 ht
    obtain ⟨hb1, ht⟩ := ht
    cases x with
    | error x =>
      obtain ⟨p, n⟩ := x
      subst ht
      have hn0 := herr p n rfl
      have hn1 : (n != 0) = true := by simpa using hn0
      clear herr
      obtain ⟨ap, hap⟩ : ∃ ap : Int, ((a + p : Nat) : Int) = ap := ⟨_, rfl⟩
      rw [hap]
      have HA := Lib.hid hap
      clear hap
      have e1 : tokV 0 ⟨0, [], 0, 0⟩ = .agg #[.int .i64 0, .string ⟨#[]⟩, .int .i64 0, .int .i64 0] := rfl
      rw [e1]
      go_wp2_with fail
      go_ret3
      have hEE : E = .error (a + p, n) := HST.out
      rw [hEE]
      exact ⟨(hbel.trans (hb1.mono hbel.size)).alloc (Nat.le_trans hbel.size hb1.size) _, by show _ = Ending.returned (.tuple #[.slice none 0 0, .int .i64 ((a + p : Nat) : Int), .int .i64 n]); rw [HA.out]; rfl⟩
    | ok y =>
      obtain ⟨t, n⟩ := y
      subst ht
      clear herr
      have hown1 := own_below hown hb1
      have hbw := hbel.trans (hb1.mono hbel.size)
      have hwr := Nat.le_trans hbel.size hb1.size
      obtain ⟨kd, wd, nn, aa, hV, hkd, hC⟩ : ∃ (kd : Int) (wd : ByteArray) (nn aa : Int), tokV a t = .agg #[.int .i64 kd, .string wd, .int .i64 nn, .int .i64 aa] ∧ kd = (t.kind : Int) ∧ cellsT { t with at_ := a + t.at_ } = [.int .i64 kd, .string wd, .int .i64 nn, .int .i64 aa] := ⟨_, _, _, _, rfl, rfl, rfl⟩
      rw [hV]
      have HC := Lib.hid hC
      clear hV hC hown hbel hb1
      obtain ⟨an, han⟩ : ∃ an : Int, ((a + n : Nat) : Int) = an := ⟨_, rfl⟩
      rw [han]
      have HAN := Lib.hid han
      clear han
      by_cases hk : t.kind = 0
      · have hk1 : (kd == 0) = true := by rw [hkd, hk]; rfl
        have hEE : E = .ok (l0 ++ [{ t with at_ := a + t.at_ }]) := by
          have := HST.out; unfold Step at this; simp only at this; rwa [if_pos hk] at this
        have HEE := Lib.hid hEE
        clear hEE hk hkd
        go_wp2_with (at_builtin; refine wpList_append_own _ rfl _ _ 93 rfl w.heap.size TT i0 (.agg #[.int .i64 0, .string ⟨#[]⟩, .int .i64 0, .int .i64 0]) 4 40 tsl hi hz0 hz1 hz2 rfl (by decide) _ _ _ rfl ((hown1.alloc _).alloc _) ⟨w1.heap.size + 1, 0, none⟩ 1 1 [.int .i64 kd, .string wd, .int .i64 nn, .int .i64 aa] rfl rfl ?c1 ?c2 ?c3 ?c4 ?c5 ?_)
        case c1 => have := cells4 (w1.alloc (.cells #[.int .i64 kd, .string wd, .int .i64 nn, .int .i64 aa] TT)) TT (.int .i64 kd) (.string wd) (.int .i64 nn) (.int .i64 aa); simpa using this
        case c2 => intro u hu; simp at hu; rcases hu with rfl | rfl | rfl | rfl <;> rfl
        case c3 => unfold maxLen; omega
        case c4 => omega
        case c5 => simp; omega
        intro v' w3 hown' hgrow _
        have htk : Tk TT w1.heap.size kd wd nn aa w3 := by
          unfold Tk
          rw [hgrow.block w1.heap.size (by simp; omega) (fun e => by have := (hown1.lt _ e.symm).2; omega)]
          exact (Tk.made w1).alloc _
        have hb3 : Below w.heap.size w w3 := ((hbw.alloc hwr _).alloc (by simp; omega) _).grown hgrow (by simp; omega) (fun k hk => (hown1.lt k hk).1)
        have q0 := htk.c0
        clear hown1 hgrow hbw hwr htk
        rw [← HC.out, ← flat_snoc] at hown'
        go_wp2_with fail
        go_ret3
        rw [HEE.out]
        exact ⟨hb3, v', rfl, by simpa using hown'⟩
      · have hk1 : (kd == 0) = false := by rw [hkd, beq_eq_false_iff_ne]; omega
        obtain ⟨ha2, hn0, f', hf', HE'⟩ : a + n ≤ s.data.toList.length ∧ 0 < n ∧ ∃ f', s.data.toList.length - (a + n) < f' ∧ Hid (glue (l0 ++ [{ t with at_ := a + t.at_ }]) (allF f' (a + n) (s.data.toList.drop (a + n))) = E) := by
          have := HST.out; unfold Step at this; simp only at this; rwa [if_neg hk] at this
        have ha2 : a + n ≤ s.size := ha2
        have hf' : s.size - (a + n) < f' := hf'
        clear hk hkd
        go_wp2_with (at_builtin; refine wpList_append_own _ rfl _ _ 93 rfl w.heap.size TT i0 (.agg #[.int .i64 0, .string ⟨#[]⟩, .int .i64 0, .int .i64 0]) 4 40 tsl hi hz0 hz1 hz2 rfl (by decide) _ _ _ rfl ((hown1.alloc _).alloc _) ⟨w1.heap.size + 1, 0, none⟩ 1 1 [.int .i64 kd, .string wd, .int .i64 nn, .int .i64 aa] rfl rfl ?d1 ?d2 ?d3 ?d4 ?d5 ?_)
        case d1 => have := cells4 (w1.alloc (.cells #[.int .i64 kd, .string wd, .int .i64 nn, .int .i64 aa] TT)) TT (.int .i64 kd) (.string wd) (.int .i64 nn) (.int .i64 aa); simpa using this
        case d2 => intro u hu; simp at hu; rcases hu with rfl | rfl | rfl | rfl <;> rfl
        case d3 => unfold maxLen; omega
        case d4 => omega
        case d5 => simp; omega
        intro v' w3 hown' hgrow _
        have htk : Tk TT w1.heap.size kd wd nn aa w3 := by
          unfold Tk
          rw [hgrow.block w1.heap.size (by simp; omega) (fun e => by have := (hown1.lt _ e.symm).2; omega)]
          exact (Tk.made w1).alloc _
        have hb3 : Below w.heap.size w w3 := ((hbw.alloc hwr _).alloc (by simp; omega) _).grown hgrow (by simp; omega) (fun k hk => (hown1.lt k hk).1)
        have q0 := htk.c0
        clear hown1 hgrow hbw hwr htk
        rw [← HC.out, ← flat_snoc] at hown'
        go_wp2_with fail
        have hl1 : (l0 ++ [({ t with at_ := a + t.at_ } : Tok)]).length ≤ a + n := by simp; omega
        exact ⟨⟨a + n, f', l0 ++ [{ t with at_ := a + t.at_ }], by rw [HAN.out], ha2, hl1, hf', HE', by simpa using hown', hb3⟩, by rw [← HAN.out]; simp only [intOf]; omega⟩
end Lx
end Go.Proofs.YthdigbkcffihkaaGreatDoor
