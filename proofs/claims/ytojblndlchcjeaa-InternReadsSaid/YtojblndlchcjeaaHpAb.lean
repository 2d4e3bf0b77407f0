/- Chapter 17, plain: literals, with what lies within them. No program. · Chapter 08, plain: the nine rules, as the reference checks them, on a list of objects. No program. · Chapter 08, plain: the memory of a town is sound, by the reference's nine rules. No program. · Chapter 08, plain: the tower of a town, and with it: the memory of a town is sound. No program. · Chapter 17, plain: a word of a town's memory, read as a literal: the program's way and the reference's. No program. -/
import Derived.Test.YtojblndlchcjeaaHpAa
set_option linter.unusedVariables false
namespace Go.Proofs.Ytojblndlchcjeaa
open Go.RowKit
namespace Hp
inductive It where
  | mk (kind : Int) (name : Bts) (num slot width : Int) (kids : List It)
namespace It
def kind : It → Int | .mk k _ _ _ _ _ => k
def name : It → Bts | .mk _ s _ _ _ _ => s
def num : It → Int | .mk _ _ n _ _ _ => n
def slot : It → Int | .mk _ _ _ s _ _ => s
def width : It → Int | .mk _ _ _ _ d _ => d
def kids : It → List It | .mk _ _ _ _ _ l => l
theorem sz (x : It) : SizeOf.sizeOf x.kids < SizeOf.sizeOf x := by cases x; simp [kids]; omega
end It
def cntI : List It → Nat
  | [] => 0
  | x :: l => 1 + cntI x.kids + cntI l
  termination_by l => SizeOf.sizeOf l
  decreasing_by all_goals (have := x.sz; simp; omega)
theorem cntI_cons (x : It) (l : List It) : cntI (x :: l) = 1 + cntI x.kids + cntI l := by rw [cntI]
theorem cntI_mem {x : It} {l : List It} (h : x ∈ l) : 1 + cntI x.kids ≤ cntI l := by
  induction l with
  | nil => cases h
  | cons y l ih =>
    rw [cntI_cons]
    rcases List.mem_cons.1 h with rfl | h
    · omega
    · have := ih h; omega
/-- No list within is longer than m. -/
inductive LenI (m : Nat) : List It → Prop
  | mk (l : List It) (h : l.length ≤ m) (hk : ∀ x ∈ l, LenI m x.kids) : LenI m l
theorem LenI.len {m : Nat} {l : List It} (h : LenI m l) : l.length ≤ m := by cases h with | mk _ h _ => exact h
theorem LenI.sub {m : Nat} {l : List It} (h : LenI m l) {x : It} (hx : x ∈ l) : LenI m x.kids := by cases h with | mk _ _ hk => exact hk x hx
theorem LenI.nil (m : Nat) : LenI m [] := .mk [] (Nat.zero_le _) (fun x h => by cases h)
/-- A literal. -/
def itm (kind : Nat) (num : Int) (name : Bts) (kids : List It) : It := .mk kind name num 0 0 kids
end Hp
end Go.Proofs.Ytojblndlchcjeaa
namespace Go.Proofs.Ytojblndlchcjeaa
open Go.RowKit
namespace Hp
/-- Memory, and its root's words. -/
structure Look where
  l : List Ob
  root : List Nat
def rt (L : Look) (i : Nat) : Nat := L.root.getD i 0
def wdsW (L : Look) (w : Nat) : List Nat := wordsO L.l w
def valW (w : Nat) : Int := if 4611686018427387904 ≤ w / 2 then (w / 2 : Int) - 9223372036854775808 else (w / 2 : Int)
end Hp
end Go.Proofs.Ytojblndlchcjeaa
namespace Go.Proofs.Ytojblndlchcjeaa
open Go.RowKit
namespace Hp
section
variable {n : Nat} {sup flds : List Int}
theorem find_cls (hn : n ≤ 6) {i : Nat} (hi : i < NN n) : findO (layL n sup flds) (2 * clsAt i) = some (clsO n sup flds i) := by
  rw [Nat.mul_comm]; exact find_mem (chain_lay n hn sup flds) (mem_cls hi)
end
end Hp
end Go.Proofs.Ytojblndlchcjeaa
namespace Go.Proofs.Ytojblndlchcjeaa
open Go.RowKit
namespace Hp
section
variable {n : Nat} {sup flds : List Int}
def townK (n : Nat) (sup flds : List Int) : Look := ⟨layL n sup flds, rootW n⟩
theorem wds_of {l : List Ob} {w : Nat} {o : Ob} (h : findO l w = some o) : wordsO l w = o.words := by unfold wordsO; rw [h]; rfl
theorem order_mem : ∀ n, n ≤ 6 → ∀ i, i < NN n → i ∈ orderL n := by
  have h : ∀ n : Fin 7, (List.range (NN n.val)).all (fun i => (orderL n.val).contains i) = true := by decide
  intro n hn i hi
  have := h ⟨n, by omega⟩
  rw [List.all_eq_true] at this
  simpa using this i (List.mem_range.2 hi)
end
end Hp
end Go.Proofs.Ytojblndlchcjeaa
namespace Go.Proofs.Ytojblndlchcjeaa
open Go.RowKit
namespace Hp
/-- All of some, or the first one's error. -/
def allE {α β : Type} (f : α → Except Int β) : List α → Except Int (List β)
  | [] => .ok []
  | x :: l => match f x with
    | .error e => .error e
    | .ok y => match allE f l with
      | .error e => .error e
      | .ok r => .ok (y :: r)
theorem allE_congr {α β : Type} {f g : α → Except Int β} : ∀ {l : List α}, (∀ x ∈ l, f x = g x) → allE f l = allE g l
  | [], _ => rfl
  | x :: l, h => by
    unfold allE
    rw [h x (List.mem_cons_self ..), allE_congr fun y hy => h y (List.mem_cons_of_mem _ hy)]
/-- What both do: kd, dp: the numbers of the errors; cl: the class of a word. -/
def readG (L : Look) (kd dp : Int) (cl : Nat → Ob → Option Bts) : Nat → Nat → Nat → Except Int It
  | 0, _, _ => .error dp
  | f + 1, w, deep =>
    if w % 2 = 1 then .ok (itm 1 (valW w) [] [])
    else if w = rt L 0 then .ok (itm 5 0 [] [])
    else if w = rt L 1 then .ok (itm 6 0 [] [])
    else if w = rt L 2 then .ok (itm 7 0 [] [])
    else match findO L.l w with
      | none => .error kd
      | some o =>
        if o.hd.cls = rt L 12 then .ok (itm 2 0 o.bytes [])
        else if o.hd.cls = rt L 13 then .ok (itm 3 0 o.bytes [])
        else if o.hd.cls = rt L 14 then
          if 40 < deep then .error dp
          else match allE (fun x => readG L kd dp cl f x (deep + 1)) o.words with
            | .error e => .error e
            | .ok r => .ok (itm 4 0 [] r)
        else match cl w o with
          | some b => .ok (itm 9 0 b [])
          | none => .error kd
theorem allE_len {α β : Type} {f : α → Except Int β} : ∀ {l : List α} {r : List β}, allE f l = .ok r → r.length = l.length ∧ ∀ y ∈ r, ∃ x ∈ l, f x = .ok y
  | [], r, h => by cases h; exact ⟨rfl, fun y hy => by cases hy⟩
  | x :: l, r, h => by
    unfold allE at h
    cases hx : f x with
    | error e => rw [hx] at h; cases h
    | ok y =>
      rw [hx] at h
      simp only at h
      cases hl : allE f l with
      | error e => rw [hl] at h; cases h
      | ok r' =>
        rw [hl] at h
        cases h
        obtain ⟨h1, h2⟩ := allE_len hl
        refine ⟨by simp [h1], fun z hz => ?_⟩
        rcases List.mem_cons.1 hz with rfl | hz
        · exact ⟨x, List.mem_cons_self .., hx⟩
        · obtain ⟨q, hq, he⟩ := h2 z hz
          exact ⟨q, List.mem_cons_of_mem _ hq, he⟩
/-- What is read is no longer than memory's objects. -/
theorem readG_len {L : Look} {kd dp : Int} {cl : Nat → Ob → Option Bts} {m : Nat} (hm : ∀ o ∈ L.l, o.words.length ≤ m) : ∀ f w deep x, readG L kd dp cl f w deep = .ok x → LenI m x.kids := by
  intro f
  induction f with
  | zero => intro w deep x h; cases h
  | succ f ih =>
    intro w deep x h
    unfold readG at h
    split at h
    · cases h; exact LenI.nil m
    split at h
    · cases h; exact LenI.nil m
    split at h
    · cases h; exact LenI.nil m
    split at h
    · cases h; exact LenI.nil m
    split at h
    · cases h
    rename_i o ho
    split at h
    · cases h; exact LenI.nil m
    split at h
    · cases h; exact LenI.nil m
    split at h
    · split at h
      · cases h
      split at h
      · cases h
      rename_i r hr
      cases h
      obtain ⟨h1, h2⟩ := allE_len hr
      refine .mk r (by rw [h1]; exact hm o (List.mem_of_find?_eq_some ho)) (fun y hy => ?_)
      obtain ⟨q, -, hq⟩ := h2 y hy
      exact ih _ _ _ hq
    split at h
    · cases h; exact LenI.nil m
    · cases h
/-- The reference: the first pair of the globals whose class it is. -/
def pairR (l : List Ob) (w : Nat) : List Nat → Option Bts
  | a :: b :: r => if b = w then some (bytesO l a) else pairR l w r
  | _ => none
def clsRef (L : Look) (w : Nat) (_ : Ob) : Option Bts := pairR L.l w (wdsW L (rt L 3))
/-- The program: an object of five fields, whose name is found as this class. glob: the search. -/
def clsPg (L : Look) (glob : Bts → Nat) (w : Nat) (o : Ob) : Option Bts :=
  if o.hd.kind = 0 ∧ o.hd.size = 5 then
    (let b := (match findO L.l (o.words.getD 3 0) with | some q => if q.hd.kind = 2 then q.bytes else [] | none => [])
     if glob b ≠ 0 ∧ glob b = w then some b else none)
  else none
theorem readG_congr (L : Look) (kd dp : Int) (c1 c2 : Nat → Ob → Option Bts) (h : ∀ w o, findO L.l w = some o → o.hd.cls ≠ rt L 12 → o.hd.cls ≠ rt L 13 → o.hd.cls ≠ rt L 14 → w ≠ rt L 0 → w ≠ rt L 1 → w ≠ rt L 2 → c1 w o = c2 w o) :
    ∀ f w deep, readG L kd dp c1 f w deep = readG L kd dp c2 f w deep := by
  intro f
  induction f with
  | zero => intro w deep; rfl
  | succ f ih =>
    intro w deep
    unfold readG
    by_cases h0 : w % 2 = 1
    · rw [if_pos h0, if_pos h0]
    rw [if_neg h0, if_neg h0]
    by_cases h1 : w = rt L 0
    · rw [if_pos h1, if_pos h1]
    rw [if_neg h1, if_neg h1]
    by_cases h2 : w = rt L 1
    · rw [if_pos h2, if_pos h2]
    rw [if_neg h2, if_neg h2]
    by_cases h3 : w = rt L 2
    · rw [if_pos h3, if_pos h3]
    rw [if_neg h3, if_neg h3]
    cases hf : findO L.l w with
    | none => rfl
    | some o =>
      simp only
      by_cases k1 : o.hd.cls = rt L 12
      · rw [if_pos k1, if_pos k1]
      rw [if_neg k1, if_neg k1]
      by_cases k2 : o.hd.cls = rt L 13
      · rw [if_pos k2, if_pos k2]
      rw [if_neg k2, if_neg k2]
      by_cases k3 : o.hd.cls = rt L 14
      · rw [if_pos k3, if_pos k3, allE_congr fun x _ => ih x (deep + 1)]
      rw [if_neg k3, if_neg k3, h w o hf k1 k2 k3 h1 h2 h3]
section
variable {n : Nat} {sup flds : List Int}
theorem pair_hit (l : List Ob) (sy cl : Nat → Nat) : ∀ (is : List Nat) (i : Nat), i ∈ is → (∀ j ∈ is, cl j = cl i → j = i) → pairR l (cl i) (is.flatMap (fun i => [sy i, cl i])) = some (bytesO l (sy i))
  | [], i, h, _ => by cases h
  | j :: is, i, h, hu => by
    rw [List.flatMap_cons]
    show (if cl j = cl i then some (bytesO l (sy j)) else pairR l (cl i) (is.flatMap (fun i => [sy i, cl i]))) = _
    by_cases e : cl j = cl i
    · have := hu j (List.mem_cons_self ..) e
      rw [if_pos e, this]
    · rw [if_neg e]
      have hne : i ≠ j := fun x => e (by rw [x])
      exact pair_hit l sy cl is i ((List.mem_cons.1 h).resolve_left hne) fun k hk => hu k (List.mem_cons_of_mem _ hk)
theorem pair_miss (l : List Ob) (sy cl : Nat → Nat) (w : Nat) : ∀ (is : List Nat), (∀ j ∈ is, cl j ≠ w) → pairR l w (is.flatMap (fun i => [sy i, cl i])) = none
  | [], _ => rfl
  | j :: is, h => by
    rw [List.flatMap_cons]
    show (if cl j = w then some (bytesO l (sy j)) else pairR l w (is.flatMap (fun i => [sy i, cl i]))) = _
    rw [if_neg (h j (List.mem_cons_self ..))]
    exact pair_miss l sy cl w is fun k hk => h k (List.mem_cons_of_mem _ hk)
theorem wds_glob (hn : n ≤ 6) : wdsW (townK n sup flds) (rt (townK n sup flds) 3) = (orderL n).flatMap (fun i => [2 * symAt n i, 2 * clsAt i]) := by
  have hf : findO (layL n sup flds) (2 * globAt n) = some (listO (globAt n) ((orderL n).flatMap (fun i => [2 * symAt n i, 2 * clsAt i]))) := by rw [Nat.mul_comm]; exact find_mem (chain_lay n hn sup flds) mem_glob
  have e : rt (townK n sup flds) 3 = 2 * globAt n := rfl
  rw [e]
  exact wds_of hf
theorem find_sym (hn : n ≤ 6) {i : Nat} (hi : i < NN n) : findO (layL n sup flds) (2 * symAt n i) = some (symO (symAt n i) ((namesL n).getD i [])) := by
  rw [Nat.mul_comm]; exact find_mem (chain_lay n hn sup flds) (mem_sym hi)
/-- A class is found by its own name. -/
theorem glob_own (hn : n ≤ 6) {i : Nat} (hi : i < NN n) : globR n ((namesL n).getD i []) = 2 * clsAt i := by
  obtain ⟨k, hk⟩ := List.getElem?_of_mem (order_mem n hn i hi)
  have h1 : (globT n)[k]? = some ((namesL n).getD i []) := by unfold globT; rw [List.getElem?_map, hk]; rfl
  have h2 := spot_at (glob_rise n hn) h1
  unfold globR
  rw [h2, if_pos h1, List.getD_eq_getElem?_getD, hk]; rfl
theorem glob_nil (hn : n ≤ 6) : globR n [] = 0 := by
  have h : ∀ n : Fin 7, globR n.val [] = 0 := by decide +kernel
  exact h ⟨n, by omega⟩
theorem find_some {l : List Ob} {w : Nat} {o : Ob} (h : findO l w = some o) : o ∈ l ∧ w = 2 * o.at_ := by
  unfold findO at h
  have h2 := List.find?_some h
  exact ⟨List.mem_of_find?_eq_some h, by have : o.at_ * 2 = w := by simpa using h2
                                         omega⟩
/-- Which class an object is: both ways say the same, in a town. -/
theorem cls_same (hn : n ≤ 6) (w : Nat) (o : Ob) (hf : findO (townK n sup flds).l w = some o) (h13 : o.hd.cls ≠ rt (townK n sup flds) 13) (h14 : o.hd.cls ≠ rt (townK n sup flds) 14)
    (w0 : w ≠ rt (townK n sup flds) 0) (w1 : w ≠ rt (townK n sup flds) 1) (w2 : w ≠ rt (townK n sup flds) 2) : clsPg (townK n sup flds) (globR n) w o = clsRef (townK n sup flds) w o := by
  have hf : findO (layL n sup flds) w = some o := hf
  obtain ⟨ho, hw⟩ := find_some hf
  have e13 : rt (townK n sup flds) 13 = symC := rfl
  have e14 : rt (townK n sup flds) 14 = arrC := rfl
  have e0 : rt (townK n sup flds) 0 = 2 * nilAt n 0 := rfl
  have e1 : rt (townK n sup flds) 1 = 2 * nilAt n 1 := rfl
  have e2 : rt (townK n sup flds) 2 = 2 * nilAt n 2 := rfl
  rw [e13] at h13
  rw [e14] at h14
  rw [e0] at w0
  rw [e1] at w1
  rw [e2] at w2
  have hlist : ∀ (a : Nat) (ws : List Nat), o ≠ listO a ws := fun a ws e => h14 (by rw [e]; rfl)
  have hsym : ∀ (a : Nat) (b : Bts), o ≠ symO a b := fun a b e => h13 (by rw [e]; rfl)
  unfold clsRef
  rw [wds_glob hn]
  unfold layL at ho
  rcases List.mem_cons.1 ho with ho | ho
  · exact absurd ho (hlist _ _)
  rcases List.mem_append.1 ho with ho | ho
  · rcases List.mem_append.1 ho with ho | ho
    · rcases List.mem_append.1 ho with ho | ho
      · rcases List.mem_append.1 ho with ho | ho
        · obtain ⟨i, hi, rfl⟩ := List.mem_map.1 ho
          rw [List.mem_range] at hi
          have hw : w = 2 * clsAt i := hw
          subst hw
          rw [show (townK n sup flds).l = layL n sup flds from rfl, pair_hit (layL n sup flds) (fun i => 2 * symAt n i) (fun i => 2 * clsAt i) (orderL n) i (order_mem n hn i hi) (fun j _ e => by
            have e : 2 * clsAt j = 2 * clsAt i := e
            unfold clsAt at e; omega)]
          have hb : bytesO (layL n sup flds) (2 * symAt n i) = (namesL n).getD i [] := by unfold bytesO; rw [find_sym hn hi]; rfl
          unfold clsPg
          rw [if_pos ⟨rfl, rfl⟩]
          have hq : findO (townK n sup flds).l ((clsO n sup flds i).words.getD 3 0) = some (symO (symAt n i) ((namesL n).getD i [])) := find_sym hn hi
          simp only [hq]
          show (if globR n (if (2 : Nat) = 2 then (namesL n).getD i [] else []) ≠ 0 ∧ globR n (if (2 : Nat) = 2 then (namesL n).getD i [] else []) = 2 * clsAt i then some (if (2 : Nat) = 2 then (namesL n).getD i [] else []) else none) = _
          rw [if_pos (rfl : (2 : Nat) = 2), glob_own hn hi, if_pos ⟨by unfold clsAt; omega, rfl⟩, hb]
        · obtain ⟨i, hi, rfl⟩ := List.mem_map.1 ho
          rw [List.mem_range] at hi
          have hw : w = 2 * metaAt n i := hw
          subst hw
          rw [pair_miss _ (fun i => 2 * symAt n i) (fun i => 2 * clsAt i) _ (orderL n) (fun j hj e => by
            have hl := order_lt n hn j hj
            have e : 2 * clsAt j = 2 * metaAt n i := e
            unfold clsAt metaAt at e; omega)]
          unfold clsPg
          rw [if_pos ⟨rfl, rfl⟩]
          have hq : findO (townK n sup flds).l ((metaO n sup i).words.getD 3 0) = some (clsO n sup flds i) := find_cls hn hi
          simp only [hq]
          show (if globR n (if (0 : Nat) = 2 then _ else []) ≠ 0 ∧ globR n (if (0 : Nat) = 2 then _ else []) = 2 * metaAt n i then some (if (0 : Nat) = 2 then _ else []) else none) = none
          rw [if_neg (by decide : ¬ (0 : Nat) = 2), glob_nil hn, if_neg (fun h => h.1 rfl)]
      · obtain ⟨k, hk, rfl⟩ := List.mem_map.1 ho
        rw [List.mem_range] at hk
        have hw : w = 2 * nilAt n k := hw
        exfalso
        match k, hk with
        | 0, _ => exact w0 hw
        | 1, _ => exact w1 hw
        | 2, _ => exact w2 hw
    · obtain ⟨i, hi, ho⟩ := List.mem_flatMap.1 ho
      unfold partO at ho
      simp only [List.mem_cons, List.not_mem_nil, or_false] at ho
      rcases ho with ho | ho | ho | ho | ho
      · exact absurd ho (hlist _ _)
      · exact absurd ho (hsym _ _)
      · exact absurd ho (hlist _ _)
      · exact absurd ho (hlist _ _)
      · exact absurd ho (hlist _ _)
  · simp only [List.mem_cons, List.not_mem_nil, or_false] at ho
    rcases ho with ho | ho | ho | ho
    · exact absurd ho (hlist _ _)
    · exact absurd ho (hsym _ _)
    · exact absurd ho (hlist _ _)
    · exact absurd ho (hlist _ _)
/-- Any word of a town's memory is the same literal to both, or the same error. -/
theorem read_same (hn : n ≤ 6) (kd dp : Int) (f w deep : Nat) : readG (townK n sup flds) kd dp (clsPg (townK n sup flds) (globR n)) f w deep = readG (townK n sup flds) kd dp (clsRef (townK n sup flds)) f w deep :=
  readG_congr _ _ _ _ _ (fun w o hf _ h13 h14 w0 w1 w2 => cls_same hn w o hf h13 h14 w0 w1 w2) f w deep
end
end Hp
end Go.Proofs.Ytojblndlchcjeaa
