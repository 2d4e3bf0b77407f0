/- Chapter 17, plain: the texts of a town's lists; what becomes of them behind a new symbol. -/
import Derived.Test.YtojblndlchcjeaaHpIg
import Derived.Test.YtojblndlchcjeaaHpAb
set_option linter.unusedVariables false
namespace Go.Proofs.Ytojblndlchcjeaa
open Go.RowKit
namespace Hp
open Bs Sm
theorem pairs_at (f g : Nat → Nat) : ∀ (is : List Nat) (k : Nat), k < is.length → (is.flatMap (fun i => [f i, g i]))[2 * k]? = some (f (is.getD k 0)) ∧ (is.flatMap (fun i => [f i, g i]))[2 * k + 1]? = some (g (is.getD k 0))
  | [], k, h => by simp at h
  | i :: is, 0, _ => ⟨rfl, rfl⟩
  | i :: is, k + 1, h => by
    have ih := pairs_at f g is k (by simpa using h)
    rw [List.flatMap_cons, show 2 * (k + 1) = (2 * k) + 1 + 1 by omega, show 2 * k + 1 + 1 + 1 = (2 * k + 1) + 1 + 1 by omega]
    exact ih
section
variable {n : Nat} {sup flds : List Int}
theorem find_glob (hn : n ≤ 6) : findO (layL n sup flds) (2 * globAt n) = some (listO (globAt n) ((orderL n).flatMap (fun i => [2 * symAt n i, 2 * clsAt i]))) := by
  rw [Nat.mul_comm]; exact find_mem (chain_lay n hn sup flds) mem_glob
theorem find_lack (hn : n ≤ 6) : findO (layL n sup flds) (2 * lackAt n) = some (symO (lackAt n) lacksL) := by
  rw [Nat.mul_comm]; exact find_mem (chain_lay n hn sup flds) mem_lack
theorem find_root (hn : n ≤ 6) : findO (layL n sup flds) 4 = some (listO 2 (rootW n)) := find_mem (chain_lay n hn sup flds) (o := listO 2 (rootW n)) mem_root
theorem get_root (hn : n ≤ 6) (i : Nat) (hi : i < 24) : getL (layL n sup flds) 4 (i : Int) = ((rootW n).getD i 0, 0) := by
  unfold getL
  rw [find_root hn]
  dsimp only
  have hs : (listO 2 (rootW n)).hd.size = 24 := rfl
  rw [if_neg (show ¬ (listO 2 (rootW n)).hd.kind = 2 by show ¬ (1 = 2); decide), if_neg (by rw [hs]; omega), Int.toNat_natCast]
  rfl
theorem bytes_sym (hn : n ≤ 6) {i : Nat} (hi : i < NN n) : bytesL (layL n sup flds) (2 * symAt n i) = ((namesL n).getD i [], 0) := by
  unfold bytesL
  rw [find_sym hn hi]
  rfl
theorem glob_len (n : Nat) : (globT n).length = NN n := by unfold globT; rw [List.length_map, order_len]
theorem glob_texts (hn : n ≤ 6) : Texts (layL n sup flds) (2 * globAt n) 2 (listO (globAt n) ((orderL n).flatMap (fun i => [2 * symAt n i, 2 * clsAt i]))) (globT n) := by
  have hsz : ((orderL n).flatMap (fun i => [2 * symAt n i, 2 * clsAt i])).length = 2 * NN n := by
    rw [← order_len n]
    generalize orderL n = is
    induction is with
    | nil => rfl
    | cons i is ih => rw [List.flatMap_cons, List.length_append, ih, List.length_cons]; simp; omega
  refine ⟨?_, fun i hi => ?_⟩
  · rw [glob_len]
    show NN n = ((orderL n).flatMap (fun i => [2 * symAt n i, 2 * clsAt i])).length / 2
    rw [hsz]; omega
  · rw [glob_len] at hi
    have hio : i < (orderL n).length := by rw [order_len]; exact hi
    have hp := (pairs_at (fun i => 2 * symAt n i) (fun i => 2 * clsAt i) (orderL n) i hio).1
    have hg : getL (layL n sup flds) (2 * globAt n) ((i * 2 : Nat) : Int) = (2 * symAt n ((orderL n).getD i 0), 0) := by
      unfold getL
      rw [find_glob hn]
      dsimp only
      rw [if_neg (show ¬ (listO (globAt n) ((orderL n).flatMap (fun i => [2 * symAt n i, 2 * clsAt i]))).hd.kind = 2 by show ¬ (1 = 2); decide), if_neg (by
        show ¬ (((i * 2 : Nat) : Int) < 0 ∨ ((((orderL n).flatMap (fun i => [2 * symAt n i, 2 * clsAt i])).length : Nat) : Int) ≤ ((i * 2 : Nat) : Int))
        rw [hsz]; omega), Int.toNat_natCast]
      show (((orderL n).flatMap (fun i => [2 * symAt n i, 2 * clsAt i])).getD (i * 2) 0, (0 : Int)) = _
      rw [List.getD_eq_getElem?_getD, Nat.mul_comm i 2, hp]; rfl
    unfold textL
    have hlt : (orderL n).getD i 0 < NN n := order_lt n hn _ (by rw [List.getD_eq_getElem?_getD, List.getElem?_eq_getElem hio]; exact List.getElem_mem hio)
    rw [hg, bytes_sym hn hlt]
    unfold globT
    rw [List.getD_eq_getElem?_getD (l := (orderL n).map _), List.getElem?_map, List.getElem?_eq_getElem hio, List.getD_eq_getElem?_getD (l := orderL n), List.getElem?_eq_getElem hio]
    rfl
/-- Globals of a town: the class of a name, or none. -/
theorem seek_glob (hn : n ≤ 6) (s : Bts) : seekL (layL n sup flds) (2 * globAt n) 2 (globT n) s = globR n s := by
  unfold seekL globR
  by_cases h : (globT n)[spotL (globT n) s]? = some s
  · rw [if_pos h, if_pos h]
    have hlt := (List.getElem?_eq_some_iff.1 h).1
    obtain ⟨i, hi⟩ : ∃ i, spotL (globT n) s = i := ⟨_, rfl⟩
    rw [hi] at hlt ⊢
    rw [glob_len] at hlt
    have hio : i < (orderL n).length := by rw [order_len]; exact hlt
    have hp := (pairs_at (fun i => 2 * symAt n i) (fun i => 2 * clsAt i) (orderL n) i hio).2
    have hsz : ((orderL n).flatMap (fun i => [2 * symAt n i, 2 * clsAt i])).length = 2 * NN n := by
      rw [← order_len n]
      generalize orderL n = is
      induction is with
      | nil => rfl
      | cons i is ih => rw [List.flatMap_cons, List.length_append, ih, List.length_cons]; simp; omega
    unfold getL
    rw [find_glob hn]
    dsimp only
    rw [if_neg (show ¬ (listO (globAt n) ((orderL n).flatMap (fun i => [2 * symAt n i, 2 * clsAt i]))).hd.kind = 2 by show ¬ (1 = 2); decide), if_neg (by
        show ¬ (((2 * i + (2 - 1) : Nat) : Int) < 0 ∨ ((((orderL n).flatMap (fun i => [2 * symAt n i, 2 * clsAt i])).length : Nat) : Int) ≤ ((2 * i + (2 - 1) : Nat) : Int))
        rw [hsz]; omega), Int.toNat_natCast]
    show (((orderL n).flatMap (fun i => [2 * symAt n i, 2 * clsAt i])).getD (2 * i + 1) 0) = _
    rw [List.getD_eq_getElem?_getD, hp]; rfl
  · rw [if_neg h, if_neg h]
end
/-- A list of symbols and its texts: each word is a raw object's. -/
structure Syms (l : List Ob) (lo : Ob) (T : List Bts) : Prop where
  len : T.length = lo.words.length
  at_ : ∀ i, i < lo.words.length → ∃ o, findO l (lo.words.getD i 0) = some o ∧ o.hd.kind = 2 ∧ o.bytes = T.getD i []
theorem Syms.texts {l : List Ob} {x r k : Nat} {ro lo : Ob} {c13 c14 : Nat} {T : List Bts} (h : Syms l lo T) (hc : Chain 2 l) (hS : SymAt l x r k ro lo c13 c14) : Texts l (2 * lo.at_) 1 lo T := by
  have hlo : findO l (2 * lo.at_) = some lo := by rw [Nat.mul_comm]; exact find_at hc hS.hk
  refine ⟨by rw [h.len, hS.ls]; omega, fun i hi => ?_⟩
  rw [h.len] at hi
  obtain ⟨o, h1, h2, h3⟩ := h.at_ i hi
  have hg : getL l (2 * lo.at_) ((i * 1 : Nat) : Int) = (lo.words.getD i 0, 0) := by
    unfold getL
    rw [hlo]
    dsimp only
    rw [if_neg hS.lk, if_neg (by rw [hS.ls]; omega), Int.toNat_natCast, Nat.mul_one]
  unfold textL bytesL
  rw [hg]
  dsimp only
  rw [h1]
  dsimp only
  rw [if_neg (by simp [h2]), h3]
theorem town_sym (n : Nat) (hn : n ≤ 6) (sup flds : List Int) : ∃ k, SymAt (layL n sup flds) 4 0 k (listO 2 (rootW n)) (listO (symsAt n) ((orderL n).map (fun i => 2 * symAt n i) ++ [2 * lackAt n])) symC arrC := by
  obtain ⟨k, hk⟩ := List.getElem?_of_mem (mem_syms (n := n) (sup := sup) (flds := flds))
  exact ⟨k, rfl, by show ¬ (1 = 2); decide, rfl, rfl, rfl, rfl, rfl, hk, by show ¬ (1 = 2); decide, rfl, by decide, by decide⟩
theorem town_syms (n : Nat) (hn : n ≤ 6) (sup flds : List Int) : Syms (layL n sup flds) (listO (symsAt n) ((orderL n).map (fun i => 2 * symAt n i) ++ [2 * lackAt n])) (symT n) := by
  have hl : (symT n).length = NN n + 1 := by unfold symT; rw [List.length_append, glob_len]; rfl
  have hw : ((orderL n).map (fun i => 2 * symAt n i) ++ [2 * lackAt n]).length = NN n + 1 := by rw [List.length_append, List.length_map, order_len]; rfl
  refine ⟨by rw [hl]; exact hw.symm, fun i hi => ?_⟩
  have hi' : i < NN n + 1 := by rw [← hw]; exact hi
  show ∃ o, findO (layL n sup flds) (((orderL n).map (fun i => 2 * symAt n i) ++ [2 * lackAt n]).getD i 0) = some o ∧ _
  by_cases h : i < NN n
  · have hio : i < (orderL n).length := by rw [order_len]; exact h
    have hlt : (orderL n).getD i 0 < NN n := order_lt n hn _ (by rw [List.getD_eq_getElem?_getD, List.getElem?_eq_getElem hio]; exact List.getElem_mem hio)
    refine ⟨symO (symAt n ((orderL n).getD i 0)) ((namesL n).getD ((orderL n).getD i 0) []), ?_, rfl, ?_⟩
    · rw [List.getD_eq_getElem?_getD, List.getElem?_append_left (by rw [List.length_map]; exact hio), List.getElem?_map, List.getElem?_eq_getElem hio]
      have := find_sym (sup := sup) (flds := flds) hn hlt
      rw [List.getD_eq_getElem?_getD, List.getElem?_eq_getElem hio] at this ⊢
      exact this
    · unfold symT
      rw [List.getD_eq_getElem?_getD (l := globT n ++ [lacksL]), List.getElem?_append_left (by rw [glob_len]; exact h)]
      unfold globT
      rw [List.getElem?_map, List.getElem?_eq_getElem hio]
      show (namesL n).getD _ [] = (namesL n).getD _ []
      rw [List.getD_eq_getElem?_getD (l := orderL n), List.getElem?_eq_getElem hio]; rfl
  · have he : i = NN n := by omega
    subst he
    refine ⟨symO (lackAt n) lacksL, ?_, rfl, ?_⟩
    · rw [List.getD_eq_getElem?_getD, List.getElem?_append_right (by rw [List.length_map, order_len]; exact Nat.le_refl _), List.length_map, order_len, Nat.sub_self]
      exact find_lack hn
    · unfold symT
      rw [List.getD_eq_getElem?_getD, List.getElem?_append_right (by rw [glob_len]; exact Nat.le_refl _), glob_len, Nat.sub_self]; rfl
section
variable {N last x r k at_ : Nat} {l : List Ob} {ro lo : Ob} {c13 c14 : Nat} {T : List Bts} {s : Bts}
/-- The list with a new symbol: what is found. -/
theorem in_find (hc : Chain 2 l) (hr : r < l.length) (i : Nat) (o : Ob) (hi : ((l ++ [rawO (endL 2 l) c13 s s.length]) ++ [nxO (endL 2 (l ++ [rawO (endL 2 l) c13 s s.length])) c14 lo.words at_ (2 * endL 2 l) lo.words.length])[i]? = some o) :
    findO (inL l r c13 c14 at_ lo s) (o.at_ * 2) = some (if r = i then { o with words := o.words.set 4 (2 * endL 2 (l ++ [rawO (endL 2 l) c13 s s.length])) } else o) := by
  unfold inL
  exact find_put (a := 2) (alloc_chain (alloc_chain hc rfl) rfl) hi
def newL (l : List Ob) (c13 c14 at_ : Nat) (lo : Ob) (s : Bts) : Ob := nxO (endL 2 (l ++ [rawO (endL 2 l) c13 s s.length])) c14 lo.words at_ (2 * endL 2 l) lo.words.length
theorem in_sym (hS : SymAt l x r k ro lo c13 c14) (hrk : r ≠ k) :
    SymAt (inL l r c13 c14 at_ lo s) x r (l.length + 1) { ro with words := ro.words.set 4 (2 * endL 2 (l ++ [rawO (endL 2 l) c13 s s.length])) } (newL l c13 c14 at_ lo s) c13 c14 := by
  have hlt := (List.getElem?_eq_some_iff.1 hS.hr).1
  have hl2 : (l ++ [rawO (endL 2 l) c13 s s.length] ++ [newL l c13 c14 at_ lo s]).length = l.length + 2 := by simp
  refine ⟨?_, hS.rk, hS.rx, ?_, ?_, ?_, ?_, ?_, by show ¬ (1 = 2); decide, ?_, hS.o13, hS.o14⟩
  · unfold inL putW
    rw [List.getElem?_modify_eq, List.getElem?_append_left (by simp; omega), List.getElem?_append_left hlt, hS.hr]; rfl
  · show (ro.words.set 4 _).length = 24
    rw [List.length_set]; exact hS.rw
  · show (ro.words.set 4 _)[4]? = _
    rw [List.getElem?_set_self (by rw [hS.rw]; decide)]; rfl
  · show (ro.words.set 4 _)[13]? = _
    rw [List.getElem?_set_ne (by decide)]; exact hS.w13
  · show (ro.words.set 4 _)[14]? = _
    rw [List.getElem?_set_ne (by decide)]; exact hS.w14
  · unfold inL putW
    rw [List.getElem?_modify, List.getElem?_append_right (by simp)]
    simp only [if_neg (show ¬ r = l.length + 1 by omega)]
    simp
    rfl
  · show lo.words.length + 1 = (nxW lo.words at_ (2 * endL 2 l) lo.words.length).length
    rw [nxW_len]
theorem in_at (hc : Chain 2 l) (hS : SymAt l x r k ro lo c13 c14) {w : Nat} {o : Ob} (h : findO l w = some o) : ∃ o', findO (inL l r c13 c14 at_ lo s) w = some o' ∧ o'.hd = o.hd ∧ o'.bytes = o.bytes ∧ (w ≠ x → o' = o) := by
  obtain ⟨hm, hw⟩ := find_some h
  obtain ⟨i, hi⟩ := List.getElem?_of_mem hm
  have hlt := (List.getElem?_eq_some_iff.1 hS.hr).1
  have hil := (List.getElem?_eq_some_iff.1 hi).1
  have hf := in_find (r := r) (at_ := at_) (lo := lo) (s := s) (c13 := c13) (c14 := c14) hc hlt i o (by rw [List.getElem?_append_left (by simp; omega), List.getElem?_append_left hil]; exact hi)
  rw [hw, Nat.mul_comm]
  refine ⟨_, hf, ?_, ?_, fun hne => ?_⟩
  · split <;> rfl
  · split <;> rfl
  · by_cases e : r = i
    · exfalso
      subst e
      rw [hS.hr] at hi
      cases hi
      exact hne (by rw [Nat.mul_comm, ← hS.rx])
    · rw [if_neg e]
theorem in_raw (hc : Chain 2 l) (hS : SymAt l x r k ro lo c13 c14) : findO (inL l r c13 c14 at_ lo s) (2 * endL 2 l) = some (rawO (endL 2 l) c13 s s.length) := by
  have hlt := (List.getElem?_eq_some_iff.1 hS.hr).1
  have hf := in_find (r := r) (at_ := at_) (lo := lo) (s := s) (c13 := c13) (c14 := c14) hc hlt l.length (rawO (endL 2 l) c13 s s.length) (by rw [List.getElem?_append_left (by simp)]; simp)
  rw [if_neg (by omega)] at hf
  rw [Nat.mul_comm]
  exact hf
theorem in_syms (hc : Chain 2 l) (hS : SymAt l x r k ro lo c13 c14) (h : Syms l lo T) : Syms (inL l r c13 c14 (spotL T s) lo s) (newL l c13 c14 (spotL T s) lo s) (insL T s) := by
  have hle := spot_le T s
  have hlen := h.len
  have hw : (newL l c13 c14 (spotL T s) lo s).words = lo.words.take (spotL T s) ++ (2 * endL 2 l) :: lo.words.drop (spotL T s) := nxW_full lo.words (spotL T s) (2 * endL 2 l) (by omega)
  have hwl : (newL l c13 c14 (spotL T s) lo s).words.length = lo.words.length + 1 := by rw [hw]; simp; omega
  refine ⟨?_, fun i hi => ?_⟩
  · rw [hwl, ← hlen]; unfold insL; simp; omega
  rw [hwl] at hi
  rw [hw]
  unfold insL
  have hraw : (rawO (endL 2 l) c13 s s.length).bytes = s := by
    show takeZ s s.length s.length = s
    unfold takeZ
    rw [List.take_length, Nat.sub_self]; simp
  by_cases h1 : i < spotL T s
  · obtain ⟨o, f1, f2, f3⟩ := h.at_ i (by omega)
    obtain ⟨o', g1, g2, g3, -⟩ := in_at (at_ := spotL T s) (s := s) hc hS f1
    refine ⟨o', ?_, by rw [g2]; exact f2, ?_⟩
    · rw [List.getD_eq_getElem?_getD, List.getElem?_append_left (by rw [List.length_take]; omega), List.getElem?_take_of_lt h1, ← List.getD_eq_getElem?_getD]; exact g1
    · rw [g3, f3, List.getD_eq_getElem?_getD, List.getD_eq_getElem?_getD, List.getElem?_append_left (by rw [List.length_take]; omega), List.getElem?_take_of_lt h1]
  · by_cases h2 : i = spotL T s
    · refine ⟨rawO (endL 2 l) c13 s s.length, ?_, rfl, ?_⟩
      rotate_left
      · rw [List.getD_eq_getElem?_getD, List.getElem?_append_right (by rw [List.length_take]; omega), List.length_take, h2, Nat.min_eq_left hle, Nat.sub_self]
        exact hraw
      · rw [List.getD_eq_getElem?_getD, List.getElem?_append_right (by rw [List.length_take]; omega), List.length_take, h2, Nat.min_eq_left (by omega), Nat.sub_self]
        exact in_raw hc hS
    · obtain ⟨q, hq⟩ : ∃ q, i - spotL T s = q + 1 := ⟨i - spotL T s - 1, by omega⟩
      have hqi : spotL T s + q = i - 1 := by omega
      obtain ⟨o, f1, f2, f3⟩ := h.at_ (i - 1) (by omega)
      obtain ⟨o', g1, g2, g3, -⟩ := in_at (at_ := spotL T s) (s := s) hc hS f1
      refine ⟨o', ?_, by rw [g2]; exact f2, ?_⟩
      · rw [List.getD_eq_getElem?_getD, List.getElem?_append_right (by rw [List.length_take]; omega), List.length_take, Nat.min_eq_left (by omega), hq, List.getElem?_cons_succ, List.getElem?_drop, hqi, ← List.getD_eq_getElem?_getD]; exact g1
      · rw [g3, f3, List.getD_eq_getElem?_getD, List.getD_eq_getElem?_getD, List.getElem?_append_right (by rw [List.length_take]; omega), List.length_take, Nat.min_eq_left hle, hq, List.getElem?_cons_succ, List.getElem?_drop, hqi]
/-- The new symbol is found. -/
theorem in_seek (hc : Chain 2 l) (hf' : Fine N (inL l r c13 c14 (spotL T s) lo s) last) (hS : SymAt l x r k ro lo c13 c14) (hrk : r ≠ k) (h : Syms l lo T) (hR : Rises T) (hs : s ∉ T) :
    (insL T s)[spotL (insL T s) s]? = some s ∧ seekL (inL l r c13 c14 (spotL T s) lo s) (2 * (newL l c13 c14 (spotL T s) lo s).at_) 1 (insL T s) s = 2 * endL 2 l := by
  have hle := spot_le T s
  have hR' := ins_rises hR s hs
  have hat : (insL T s)[spotL T s]? = some s := by
    unfold insL
    rw [List.getElem?_append_right (by rw [List.length_take]; omega), List.length_take, Nat.min_eq_left hle, Nat.sub_self]; rfl
  have hsp := spot_at hR' hat
  have hS' := in_sym (at_ := spotL T s) (s := s) hS hrk
  rw [hsp]
  refine ⟨hat, ?_⟩
  unfold seekL
  rw [hsp, if_pos hat]
  have hw : (newL l c13 c14 (spotL T s) lo s).words = lo.words.take (spotL T s) ++ (2 * endL 2 l) :: lo.words.drop (spotL T s) := nxW_full lo.words (spotL T s) (2 * endL 2 l) (by have := h.len; omega)
  have hg := getL_at (N := N) (last := last) (i := spotL T s) (v := 2 * endL 2 l) hf' hS'.hk hS'.lk rfl (by
    rw [hw, List.getElem?_append_right (by rw [List.length_take]; omega), List.length_take, Nat.min_eq_left (by have := h.len; omega), Nat.sub_self]; rfl)
  have e : ((1 * spotL T s + (1 - 1) : Nat) : Int) = ((spotL T s : Nat) : Int) := by simp
  rw [e, hg]
end
end Hp
end Go.Proofs.Ytojblndlchcjeaa
