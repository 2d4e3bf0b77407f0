/- Methods as trees: their text. Plain; no program. · Names of messages: their parts, their kinds. Plain; no program. · Methods as trees: nodes that may be written; how long their text is. Plain; no program. -/
import Derived.Test.YtbdgoimbddlcoaaGreatDoorTrA
import Derived.Lib.ItoaNum
import Derived.Lib.Strings
import Derived.Lib.Split
import Derived.Test.YtbdgoimbddlcoaaGreatDoorLxE3
import Derived.Lib.SplitLaws
set_option linter.unusedVariables false
namespace Go.Proofs.YtbdgoimbddlcoaaGreatDoor
namespace Tr
open Lx
def nd0 : Nd := .mk 0 [] 0 [] [] 0
def quoteT (w : Bytes) : Bytes := 39 :: (w.flatMap (fun c => if c = 39 then [39, 39] else [c]) ++ [39])
/-- Does a text end with a colon? -/
def ends (s : Bytes) : Bool := Lib.hasSuffix s [58]
/-- How close what is sent binds: 3: a Name; 2: an Op; 1: Keywords. -/
def rankS (s : Bytes) : Int := if arityL s = 0 then 3 else if ends s then 1 else 2
def rankN (x : Nd) : Int := if x.kind = 7 then rankS x.name else if x.kind = 6 ∨ x.kind = 8 then 0 else 4
/-- In brackets where it binds looser. -/
def leastT (r : Int) (x : Nd) (t : Bytes) : Bytes := if rankN x < r then 40 :: (t ++ [41]) else t
/-- The parts of a name, without their colons. -/
def partsL (s : Bytes) : List Bytes :=
 (Lib.splitB ⟨#[58]⟩ 1 (min (Lib.countB ⟨(Lib.trimSuffix s [58]).toArray⟩ ⟨#[58]⟩ + 1) ((Lib.trimSuffix s [58]).length + 1) - 1) ⟨(Lib.trimSuffix s [58]).toArray⟩).map (fun p => Lib.trimSuffix p.data.toList [58])
/-- The first k of some, with words between. -/
def joinF (between : Bytes) (g : Nat → Bytes) (k : Nat) : Bytes := (List.range k).flatMap (fun i => (if i = 0 then [] else between) ++ g i)
theorem joinF_zero (b : Bytes) (g : Nat → Bytes) : joinF b g 0 = [] := rfl
theorem joinF_succ (b : Bytes) (g : Nat → Bytes) (k : Nat) : joinF b g (k + 1) = joinF b g k ++ ((if k = 0 then [] else b) ++ g k) := by
 unfold joinF
 rw [List.range_succ, List.flatMap_append]
 simp
def spreadT (s : Bytes) (g : Nat → Bytes) (k : Nat) : Bytes := joinF [32] (fun i => (partsL s).getD i [] ++ ([58, 32] ++ g i)) k
/-- May a symbol stand in a literal array without its #? -/
def plainS (s : Bytes) : Bool := decide (0 ≤ arityL s) && s != [124] && s != [116, 114, 117, 101] && s != [102, 97, 108, 115, 101] && s != [110, 105, 108]
def symT (s : Bytes) : Bytes := if arityL s < 0 then 35 :: quoteT s else 35 :: s
section
variable (T : Nd → Bytes × Bytes)
def kid (x : Nd) (i : Nat) : Nd := x.kids.getD i nd0
def msgT (x : Nd) : Bytes :=
 if rankS x.name = 3 then x.name
 else if rankS x.name = 2 then x.name ++ ([32] ++ leastT 3 (kid x 1) (T (kid x 1)).1)
 else spreadT x.name (fun i => leastT 2 (kid x (i + 1)) (T (kid x (i + 1))).1) (partsL x.name).length
def sendT (x : Nd) : Bytes := leastT (if rankS x.name = 3 then 3 else 2) (kid x 0) (T (kid x 0)).1 ++ ([32] ++ msgT T x)
def elemT (k : Nd) : Bytes := if k.kind = 4 then [40] ++ ((T k).2 ++ [41]) else if k.kind = 3 ∧ plainS k.name then k.name else (T k).1
def listT (x : Nd) : Bytes := joinF [32] (fun i => elemT T (kid x i)) x.kids.length
def statsT (l : List Nd) : Bytes := joinF [46, 32] (fun i => (T (l.getD i nd0)).1) l.length
def blockT (x : Nd) : Bytes :=
 [91] ++ (joinF [] (fun i => [58] ++ (x.names.getD i [] ++ [32])) x.num.toNat ++ ((if 0 < x.num then [124, 32] else []) ++
  ((if x.num < (x.names.length : Int) then [124, 32] ++ (joinF [32] (fun i => (x.names.drop x.num.toNat).getD i []) (x.names.drop x.num.toNat).length ++ [32, 124, 32]) else []) ++ (statsT T x.kids ++ [93]))))
def cascT (x : Nd) : Bytes := (T (kid x 0)).1 ++ joinF [] (fun i => [59, 32] ++ (T (kid x (i + 1))).2) (x.kids.length - 1)
/-- A node's text; a message's without its receiver, a list's without its brackets. -/
def nodeT (x : Nd) : Bytes × Bytes :=
 if x.kind = 1 then (Lib.itoa x.num, [])
 else if x.kind = 2 then (quoteT x.name, [])
 else if x.kind = 3 then (symT x.name, [])
 else if x.kind = 4 then ([35, 40] ++ (listT T x ++ [41]), listT T x)
 else if x.kind = 5 then (x.name, [])
 else if x.kind = 6 then (x.name ++ ([32, 58, 61, 32] ++ (T (kid x 0)).1), [])
 else if x.kind = 7 then (sendT T x, msgT T x)
 else if x.kind = 8 then (cascT T x, [])
 else if x.kind = 9 then (blockT T x, [])
 else if x.kind = 10 then ([94] ++ (T (kid x 0)).1, [])
 else ([], [])
end
theorem nodeT_congr (T T' : Nd → Bytes × Bytes) (x : Nd) (H : ∀ i, T (kid x i) = T' (kid x i)) : nodeT T x = nodeT T' x := by
 unfold kid at H
 unfold nodeT sendT listT blockT cascT msgT spreadT statsT elemT kid
 simp only [H]
/-- A node's text. -/
def txt (x : Nd) : Bytes × Bytes := nodeT (fun y => if h : cntL y.kids < cntL x.kids then txt y else ([], [])) x
 termination_by cntL x.kids
theorem txt0 : txt nd0 = ([], []) := by rw [txt]; rfl
theorem kid_mem (x : Nd) (i : Nat) (h : i < x.kids.length) : kid x i ∈ x.kids := by
 unfold kid
 rw [List.getD_eq_getElem?_getD, List.getElem?_eq_getElem h]
 exact List.getElem_mem h
theorem kid_lt (x : Nd) (i : Nat) (h : i < x.kids.length) : cntL (kid x i).kids < cntL x.kids := by
 have := cnt_mem (kid_mem x i h)
 omega
theorem txt_eq (x : Nd) : txt x = nodeT txt x := by
 conv => lhs; rw [txt]
 apply nodeT_congr
 intro i
 by_cases h : i < x.kids.length
 · rw [dif_pos (kid_lt x i h)]
 · have e : kid x i = nd0 := by
    unfold kid
    rw [List.getD_eq_getElem?_getD, List.getElem?_eq_none (by omega)]
    rfl
   rw [e]
   split
   · rfl
   · rw [txt0]
/-- A method's text. -/
def printT (m : Mt) : Bytes :=
 (if rankS m.name = 3 then m.name else if rankS m.name = 2 then m.name ++ ([32] ++ m.params.getD 0 []) else spreadT m.name (fun i => m.params.getD i []) (partsL m.name).length) ++
  ((if m.prim = 0 then [] else [32, 60, 112, 114, 105, 109, 105, 116, 105, 118, 101, 58, 32] ++ (Lib.itoa m.prim ++ [62])) ++
   ((if m.temps = [] then [] else [32, 124, 32] ++ (joinF [32] (fun i => m.temps.getD i []) m.temps.length ++ [32, 124])) ++
    ((if m.body = [] then [] else [32]) ++ statsT txt m.body)))
end Tr
end Go.Proofs.YtbdgoimbddlcoaaGreatDoor
namespace Go.Proofs.YtbdgoimbddlcoaaGreatDoor
namespace Tr
open Lx
/-- What stands ahead of each colon; a rest without one is dropped. -/
def kwA : Bytes → Bytes → List Bytes
 | _, [] => []
 | a, c :: t => if c = 58 then a :: kwA [] t else kwA (a ++ [c]) t
theorem kwA_no : ∀ (p a r : Bytes), 58 ∉ p → kwA a (p ++ 58 :: r) = (a ++ p) :: kwA [] r
 | [], a, r, _ => by simp [kwA]
 | c :: p, a, r, h => by
  simp only [List.mem_cons, not_or] at h
  rw [List.cons_append, kwA, if_neg (fun e => h.1 e.symm), kwA_no p _ r h.2]
  simp
theorem kwA_len : ∀ (t a : Bytes), (kwA a t).length = t.count 58
 | [], a => rfl
 | c :: t, a => by
  unfold kwA
  split
  · rename_i h; subst h; rw [List.length_cons, kwA_len t]; simp
  · rename_i h; rw [kwA_len t, List.count_cons_of_ne (by simpa using h)]
theorem kwA_size : ∀ (t a p : Bytes), p ∈ kwA a t → p.length ≤ a.length + t.length
 | [], a, p, h => by cases h
 | c :: t, a, p, h => by
  unfold kwA at h
  split at h
  · rcases List.mem_cons.1 h with rfl | h
    · simp
    · have := kwA_size t [] p h; simp at this ⊢; omega
  · have := kwA_size t _ p h; simp at this ⊢; omega
theorem ends_iff {s : Bytes} : ends s = true ↔ ∃ t, s = t ++ [58] := by
 unfold ends Lib.hasSuffix
 rw [List.isSuffixOf_iff_suffix]
 constructor
 · rintro ⟨t, h⟩; exact ⟨t, h.symm⟩
 · rintro ⟨t, h⟩; exact ⟨t, h.symm⟩
theorem trim_colon (t : Bytes) : Lib.trimSuffix (t ++ [58]) [58] = t := by
 unfold Lib.trimSuffix
 have h : Lib.hasSuffix (t ++ [58]) [58] = true := ends_iff.2 ⟨t, rfl⟩
 rw [if_pos h]
 simp
theorem trim_no (t : Bytes) (h : 58 ∉ t) : Lib.trimSuffix t [58] = t := by
 unfold Lib.trimSuffix
 rw [if_neg]
 intro h2
 obtain ⟨u, hu⟩ := ends_iff.1 h2
 exact h (by rw [hu]; simp)
theorem idx_split : ∀ (t : Bytes), 58 ∈ t → ∃ p q, t = p ++ 58 :: q ∧ 58 ∉ p ∧ Lib.indexByte t 58 = (p.length : Int)
 | [], h => by cases h
 | c :: t, h => by
  by_cases hc : c = 58
  · subst hc
    exact ⟨[], t, rfl, by simp, by simp [Lib.indexByte]⟩
  · rcases List.mem_cons.1 h with h | h
    · exact absurd h.symm hc
    · obtain ⟨p, q, h1, h2, h3⟩ := idx_split t h
      refine ⟨c :: p, q, by rw [h1]; rfl, by simp [h2]; exact fun e => hc e.symm, ?_⟩
      have hb : (c == 58) = false := beq_eq_false_iff_ne.2 hc
      have hm : (Lib.indexByte t 58 == -1) = false := beq_eq_false_iff_ne.2 (by omega)
      rw [Lib.indexByte]
      simp [hb, h3]
      try omega
theorem split_kw : ∀ (k : Nat) (t : Bytes), t.count 58 = k → (Lib.splitK [58] 1 k t).map (fun p => Lib.trimSuffix p [58]) = kwA [] (t ++ [58])
 | 0, t, h => by
  have hn : 58 ∉ t := by
   intro hm
   have := List.count_pos_iff.2 hm
   omega
  show [Lib.trimSuffix t [58]] = _
  rw [trim_no t hn, kwA_no t [] [] hn]
  rfl
 | k + 1, t, h => by
  have hm : 58 ∈ t := List.count_pos_iff.1 (by omega)
  obtain ⟨p, q, rfl, hp, hi⟩ := idx_split t hm
  have hq : q.count 58 = k := by
   rw [List.count_append, List.count_eq_zero.2 hp] at h
   simp at h
   exact h
  rw [Lib.splitK, Lib.index_one, hi]
  have e1 : ((p.length : Int) == -1) = false := beq_eq_false_iff_ne.2 (by omega)
  rw [e1]
  simp only [Bool.false_eq_true, if_false, List.map_cons]
  have e2 : ((p.length : Int)).toNat = p.length := by omega
  rw [e2]
  have e3 : (p ++ 58 :: q).take (p.length + 1) = p ++ [58] := by
   rw [show p ++ 58 :: q = (p ++ [58]) ++ q by simp, List.take_append_of_le_length (by simp), List.take_of_length_le (by simp)]
  have e4 : (p ++ 58 :: q).drop (p.length + ([58] : Bytes).length) = q := by
   rw [show p ++ 58 :: q = (p ++ [58]) ++ q by simp]
   exact List.drop_left' (by simp)
  rw [e3, e4, trim_colon, split_kw k q hq, List.append_assoc, List.cons_append, kwA_no p [] _ hp]
  rfl
theorem parts_kw (s : Bytes) (h : ends s = true) : partsL s = kwA [] s := by
 obtain ⟨t, rfl⟩ := ends_iff.1 h
 unfold partsL
 rw [trim_colon]
 have hc : Lib.countB ⟨t.toArray⟩ ⟨#[58]⟩ = t.count 58 := Lib.count_one 58 t
 have hle : t.count 58 ≤ t.length := List.count_le_length
 rw [hc]
 have e : min (t.count 58 + 1) (t.length + 1) - 1 = t.count 58 := by omega
 rw [e, ← split_kw _ t rfl]
 have := Lib.splitB_data ⟨#[58]⟩ 1 (t.count 58) ⟨t.toArray⟩
 show _ = (Lib.splitK ((⟨#[58]⟩ : ByteArray).data.toList) 1 _ ((⟨t.toArray⟩ : ByteArray).data.toList)).map _
 rw [← this, List.map_map]
 rfl
theorem kwF_ends : ∀ (f : Nat) (r : Bytes), r ≠ [] → kwF f r = r.length → ends r = true
 | 0, r, hr, h => by
  have : r.length = 0 := by rw [← h]; rfl
  exact absurd (List.eq_nil_of_length_eq_zero this) hr
 | f + 1, r, hr, h => by
  have hl : r.length ≠ 0 := by simpa using hr
  unfold kwF at h
  split at h
  · omega
  · split at h
    · rename_i h1 h2
      by_cases hd' : r.drop (nameL r + 1) = []
      · rw [hd'] at h
        have hlen : r.length = nameL r + 1 := by
         have : r.length ≤ nameL r + 1 := List.drop_eq_nil_iff.1 hd'
         omega
        unfold colonB at h2
        simp only [Bool.and_eq_true, beq_iff_eq] at h2
        have h3 := h2.1
        rw [hd_drop', Nat.add_zero] at h3
        refine ends_iff.2 ⟨r.take (nameL r), ?_⟩
        have hg : r[nameL r]? = some 58 := by
         unfold hd at h3
         rw [List.getD_eq_getElem?_getD, List.getElem?_eq_getElem (by omega)] at h3
         rw [List.getElem?_eq_getElem (by omega)]
         simpa using h3
        have := List.take_add_one (l := r) (i := nameL r)
        rw [hg] at this
        have e := List.take_of_length_le (l := r) (i := nameL r + 1) (by omega)
        rw [this] at e
        simpa using e.symm
      · have hk : kwF f (r.drop (nameL r + 1)) = (r.drop (nameL r + 1)).length := by
         rw [List.length_drop]; omega
        obtain ⟨t, ht⟩ := ends_iff.1 (kwF_ends f _ hd' hk)
        refine ends_iff.2 ⟨r.take (nameL r + 1) ++ t, ?_⟩
        rw [List.append_assoc, ← ht, List.take_append_drop]
    · omega
theorem last_ends {s : Bytes} (hs : s ≠ []) : (hd s (s.length - 1) = 58) ↔ ends s = true := by
 rw [ends_iff]
 have hl : s.length ≠ 0 := by simpa using hs
 unfold hd
 rw [List.getD_eq_getElem?_getD, ← List.getLast?_eq_getElem?]
 constructor
 · intro h
   cases hg : s.getLast? with
   | none => rw [hg] at h; simp at h
   | some x =>
    rw [hg] at h
    have : x = 58 := by simpa using h
    subst this
    exact ⟨s.dropLast, (by obtain ⟨ys, hy⟩ := List.getLast?_eq_some_iff.1 hg; rw [hy]; simp)⟩
 · rintro ⟨t, rfl⟩
   simp
theorem ar_cases {s : Bytes} (h : 0 ≤ arityL s) : s ≠ [] ∧ s.length ≤ 64 ∧
  ((arityL s = 0 ∧ letter (hd s 0) = true ∧ ends s = false) ∨ (arityL s = 1 ∧ letter (hd s 0) = false ∧ ends s = false) ∨ (0 < arityL s ∧ arityL s = (s.count 58 : Nat) ∧ letter (hd s 0) = true ∧ ends s = true)) := by
 have ha : arityL s = arityP s := rfl
 obtain ⟨h1, h2, h3⟩ := arity_ok (w := s) (by rw [← ha]; omega)
 refine ⟨h1, h2, ?_⟩
 have hl : s.length ≠ 0 := by simpa using h1
 unfold arityP at ha
 rw [if_neg h1, if_neg (by omega)] at ha
 by_cases hk : kwL s = s.length
 · rw [if_pos hk] at ha
   have he := kwF_ends _ s h1 hk
   have hlt : letter (hd s 0) = true := by
    cases hb : letter (hd s 0) with
    | true => rfl
    | false => rw [kwL_letter hb] at hk; omega
   have hc : 0 < s.count 58 := by
    obtain ⟨t, rfl⟩ := ends_iff.1 he
    simp
   refine .inr (.inr ⟨?_, ?_, hlt, he⟩)
   · rw [ha]; unfold Lib.countByte; omega
   · rw [ha]; rfl
 · rw [if_neg hk] at ha
   by_cases hn : nameL s = s.length
   · rw [if_pos hn] at ha
     unfold nameL at hn
     split at hn
     · rename_i hlt
       refine .inl ⟨ha, hlt, ?_⟩
       cases he : ends s with
       | false => rfl
       | true =>
        obtain ⟨t, rfl⟩ := ends_iff.1 he
        exfalso
        have hall : ∀ x ∈ t ++ [58], alnum x = true := by
         have hp := List.takeWhile_prefix (p := alnum) (l := t ++ [58])
         have : (t ++ [58]).takeWhile alnum = t ++ [58] := hp.eq_of_length hn
         intro x hx
         rw [← this] at hx
         exact List.all_eq_true.1 (List.all_takeWhile (p := alnum) (l := t ++ [58])) x hx
        have := hall 58 (by simp)
        revert this
        decide
     · omega
   · rw [if_neg hn] at ha
     have ho : operL s = s.length := by
      rcases h3 with h3 | h3 | h3
      · exact absurd h3 hk
      · exact absurd h3 hn
      · exact h3
     rw [if_pos ho] at ha
     have hlt : letter (hd s 0) = false := by
      cases hb : letter (hd s 0) with
      | false => rfl
      | true =>
       have := oper_letter hb
       unfold operL at ho
       rw [if_neg this.1, this.2] at ho
       simp at ho
       omega
     refine .inr (.inl ⟨ha, hlt, ?_⟩)
     cases he : ends s with
     | false => rfl
     | true =>
      exfalso
      have h58 := (last_ends h1).2 he
      unfold operL at ho
      split at ho
      · rename_i h124
        rw [← ho] at h58
        have : hd s 0 = 58 := h58
        rw [h124] at this
        revert this; decide
      · split at ho
        · rename_i hop
          split at ho
          · rename_i hop2
            rw [← ho] at h58
            have h58 : hd s 1 = 58 := h58
            rw [h58] at hop2
            revert hop2; decide
          · rw [← ho] at h58
            have h58 : hd s 0 = 58 := h58
            rw [h58] at hop
            revert hop; decide
        · omega
theorem rank_cases {s : Bytes} (h : 0 ≤ arityL s) : (rankS s = 3 ∧ arityL s = 0) ∨ (rankS s = 2 ∧ arityL s = 1) ∨ (rankS s = 1 ∧ 0 < arityL s ∧ partsL s = kwA [] s ∧ (partsL s).length = (arityL s).toNat) := by
 obtain ⟨h1, _, h2⟩ := ar_cases h
 unfold rankS
 rcases h2 with ⟨a, b, c⟩ | ⟨a, b, c⟩ | ⟨a, a', b, c⟩
 · exact .inl ⟨by rw [if_pos a], a⟩
 · exact .inr (.inl ⟨by rw [if_neg (by omega), c, if_neg (by decide)], a⟩)
 · refine .inr (.inr ⟨by rw [if_neg (by omega), if_pos c], a, parts_kw s c, ?_⟩)
   rw [parts_kw s c, kwA_len]; omega
end Tr
end Go.Proofs.YtbdgoimbddlcoaaGreatDoor
namespace Go.Proofs.YtbdgoimbddlcoaaGreatDoor
namespace Tr
open Lx
def Nice (y : Nd) : Prop := Fair y ∧ bigB y = false
structure Gd (x : Nd) : Prop where
 fit : ∃ may, fitsB x may = true
 nice : Nice x
 sub : ∀ y ∈ allL x.kids, Nice y
theorem fitsK_mem {m0 m : Bool} {l : List Nd} (h : fitsK m0 m l = true) {y : Nd} (hy : y ∈ l) : ∃ may, fitsB y may = true := by
 induction l generalizing m0 with
 | nil => cases hy
 | cons x l ih =>
  rw [fitsK_cons, Bool.and_eq_true] at h
  rcases List.mem_cons.1 hy with rfl | hy
  · exact ⟨_, h.1⟩
  · exact ih h.2 hy
section
variable {x : Nd}
theorem Gd.parts (h : Gd x) : shapeB x = true ∧ kidsB x = true ∧ fitsK false (x.kind == 8) x.kids = true := by
 obtain ⟨may, hf⟩ := h.fit
 unfold fitsB at hf
 simp only [Bool.and_eq_true] at hf
 exact ⟨hf.1.1.1, hf.1.1.2, hf.2⟩
theorem Gd.of_mem (h : Gd x) {y : Nd} (hy : y ∈ x.kids) : Gd y :=
 ⟨fitsK_mem h.parts.2.2 hy, h.sub y (mem_all hy), fun z hz => h.sub z (all_kids hy hz)⟩
theorem Gd.kid (h : Gd x) (i : Nat) (hi : i < x.kids.length) : Gd (kid x i) := h.of_mem (kid_mem x i hi)
theorem Gd.name (h : Gd x) : x.name.length ≤ 1000000 := by have := h.nice.1.1; omega
theorem sh_in (h : shapeB x = true) : 1 ≤ x.kind ∧ x.kind ≤ 11 := by
 unfold shapeB at h
 by_cases h1 : 1 ≤ x.kind ∧ x.kind ≤ 11
 · exact h1
 · exfalso
   rw [if_neg (by omega), if_neg (by omega), if_neg (by omega), if_neg (by omega), if_neg (by omega), if_neg (by omega), if_neg (by omega), if_neg (by omega), if_neg (by omega)] at h
   simp at h
   omega
theorem sh6 (hK : x.kind = 6) (h : shapeB x = true) : arityL x.name = 0 ∧ x.kids.length = 1 := by
 unfold shapeB bareB at h
 rw [hK] at h
 simp [isName] at h
 omega
theorem sh7 (hK : x.kind = 7) (h : shapeB x = true) : 0 ≤ arityL x.name ∧ (x.kids.length : Int) = 1 + arityL x.name := by
 unfold shapeB bareB at h
 rw [hK] at h
 simp at h
 omega
theorem sh8 (hK : x.kind = 8) (h : shapeB x = true) : 2 ≤ x.kids.length := by
 unfold shapeB bareB at h
 rw [hK] at h
 simp at h
 omega
theorem sh9 (hK : x.kind = 9) (h : shapeB x = true) : 0 ≤ x.num ∧ x.num ≤ (x.names.length : Int) ∧ x.names.all isName = true := by
 unfold shapeB bareB at h
 rw [hK] at h
 simp at h
 exact ⟨by omega, by omega, by simpa using h.2⟩
theorem sh10 (hK : x.kind = 10) (h : shapeB x = true) : x.kids.length = 1 := by
 unfold shapeB bareB at h
 rw [hK] at h
 simp at h
 omega
theorem sh_casc (hK : x.kind = 8) (h : kidsB x = true) (hl : 2 ≤ x.kids.length) : (kid x 0).kind = 7 ∧ holed (kid x 0) = false ∧ ∀ i, 0 < i → i < x.kids.length → holed (kid x i) = true := by
 unfold kidsB at h
 rw [hK] at h
 simp only [show ((8 : Int) = 4) = False by decide, show ((8 : Int) = 9) = False by decide, if_false, if_true] at h
 have hkid : ∀ i, kid x i = x.kids.getD i nd0 := fun i => rfl
 cases hx : x.kids with
 | nil => rw [hx] at hl; simp at hl
 | cons y l =>
  rw [hx] at h
  simp only [Bool.and_eq_true, beq_iff_eq, Bool.not_eq_true'] at h
  refine ⟨by rw [hkid, hx]; exact h.1.1, by rw [hkid, hx]; exact h.1.2, fun i h0 hi => ?_⟩
  rw [hkid, hx]
  obtain ⟨j, rfl⟩ : ∃ j, i = j + 1 := ⟨i - 1, by omega⟩
  simp at hi
  have hm : l[j] ∈ l := List.getElem_mem hi
  have := List.all_eq_true.1 h.2 _ hm
  simpa [List.getD_eq_getElem?_getD, List.getElem?_eq_getElem hi] using this
theorem isName_len {s : Bytes} (h : isName s = true) : s.length ≤ 64 := by
 unfold isName at h
 have : arityL s = 0 := by simpa using h
 exact (ar_cases (by omega)).2.1
end
/-- The greater of a node's two texts. -/
def tlen (x : Nd) : Nat := max (txt x).1.length (txt x).2.length
def sumT (l : List Nd) : Nat := (l.map tlen).sum
theorem tlen0 : tlen nd0 = 0 := by unfold tlen; rw [txt0]; rfl
theorem sum_get : ∀ (l : List Nd) (n : Nat), ((List.range n).map (fun i => tlen (l.getD i nd0))).sum ≤ sumT l
 | [], n => by
  have : ((List.range n).map (fun i => tlen (([] : List Nd).getD i nd0))).sum = 0 := by
   induction n with
   | zero => rfl
   | succ n ih => rw [List.range_succ, List.map_append, List.sum_append_nat, ih]; simp [tlen0]
  omega
 | x :: l, 0 => by simp
 | x :: l, n + 1 => by
  have := sum_get l n
  rw [List.range_succ_eq_map, List.map_cons, List.sum_cons, List.map_map]
  unfold sumT
  rw [List.map_cons, List.sum_cons]
  have e : ((fun i => tlen ((x :: l).getD i nd0)) ∘ Nat.succ) = fun i => tlen (l.getD i nd0) := by
   funext i; simp
  rw [e]
  unfold sumT at this
  simp
  simpa using this
theorem sum_tail (l : List Nd) (n : Nat) : tlen (l.getD 0 nd0) + ((List.range n).map (fun i => tlen (l.getD (i + 1) nd0))).sum ≤ sumT l := by
 cases l with
 | nil =>
  have := sum_get [] (n + 1)
  rw [List.range_succ_eq_map, List.map_cons, List.sum_cons, List.map_map] at this
  have e : ((fun i => tlen (([] : List Nd).getD i nd0)) ∘ Nat.succ) = fun i => tlen (([] : List Nd).getD (i + 1) nd0) := rfl
  rw [e] at this
  exact this
 | cons x l =>
  have := sum_get l n
  unfold sumT at this ⊢
  simp only [List.getD_cons_zero, List.getD_cons_succ, List.map_cons, List.sum_cons]
  omega
theorem join_len (b : Bytes) (g : Nat → Bytes) (C : Nat) (m : Nat → Nat) : ∀ n, (∀ i, i < n → (g i).length ≤ C + m i) → (joinF b g n).length ≤ n * (b.length + C) + ((List.range n).map m).sum
 | 0, _ => by rw [joinF_zero]; simp
 | n + 1, h => by
  have ih := join_len b g C m n (fun i hi => h i (by omega))
  have h1 := h n (by omega)
  rw [joinF_succ, List.length_append, List.length_append, List.range_succ, List.map_append, List.sum_append_nat, Nat.succ_mul]
  have h2 : (if n = 0 then ([] : Bytes) else b).length ≤ b.length := by split <;> simp
  simp
  omega
theorem least_len (r : Int) (x : Nd) (t : Bytes) : (leastT r x t).length ≤ t.length + 2 := by
 unfold leastT
 split <;> simp
theorem quote_len (w : Bytes) : (quoteT w).length ≤ 2 * w.length + 2 := by
 have : (w.flatMap (fun c => if c = 39 then [39, 39] else [c])).length ≤ 2 * w.length := by
  induction w with
  | nil => simp
  | cons c w ih =>
   rw [List.flatMap_cons, List.length_append, List.length_cons]
   have h2 : (if c = 39 then ([39, 39] : Bytes) else [c]).length ≤ 2 := by split <;> simp
   omega
 unfold quoteT
 simp only [List.length_append, List.length_cons, List.length_nil]
 omega
def Tb (x : Nd) : Prop := tlen x + 1000 ≤ 100000 * (1 + cntL x.kids)
set_option maxRecDepth 100000 in
theorem sum_le : ∀ (l : List Nd), (∀ y ∈ l, Tb y) → sumT l + 1000 * l.length ≤ 100000 * cntL l
 | [], _ => by simp [sumT]
 | x :: l, h => by
  have h1 := h x (List.mem_cons_self ..)
  have h2 := sum_le l (fun y hy => h y (List.mem_cons_of_mem _ hy))
  unfold Tb at h1
  rw [cntL_cons]
  unfold sumT at h2 ⊢
  rw [List.map_cons, List.sum_cons, List.length_cons, Nat.mul_succ, Nat.mul_add]
  rw [Nat.mul_add] at h1 ⊢
  generalize (l.map tlen).sum = q at h2 ⊢
  omega
theorem dec_len (n : Nat) : ∀ u, u < 10 ^ (n + 1) → (Lib.decDigits u).length ≤ n + 1 := by
 induction n with
 | zero => intro u h; rw [Lib.decDigits, dif_pos (by omega)]; simp
 | succ n ih =>
  intro u h
  rw [Lib.decDigits]
  split
  · simp
  · rw [List.length_append]
    have := ih (u / 10) (by rw [Nat.pow_succ] at h; omega)
    simp; omega
theorem txt_le : ∀ (m : Nat) (x : Nd), cntL x.kids < m → Gd x → Tb x
 | 0, x, h, _ => by omega
 | m + 1, x, h, hg => by
  have IH : ∀ y ∈ x.kids, Tb y := fun y hy => txt_le m y (by have := cnt_mem hy; omega) (hg.of_mem hy)
  have hS := sum_le x.kids IH
  have hsh := hg.parts.1
  have hin := sh_in hsh
  have hnm := hg.nice.1.1
  have hk : ∀ i, tlen (kid x i) = tlen (x.kids.getD i nd0) := fun i => rfl
  have h1 : ∀ y, (txt y).1.length ≤ tlen y := fun y => by unfold tlen; omega
  have h2 : ∀ y, (txt y).2.length ≤ tlen y := fun y => by unfold tlen; omega
  have hk0 : tlen (kid x 0) ≤ sumT x.kids := by have := sum_tail x.kids 0; rw [hk]; omega
  have hnl := len_le_cnt x.kids
  have hnt : nodeT txt x = txt x := (txt_eq x).symm
  have hmsg : x.kind = 7 → tlen (kid x 0) + (msgT txt x).length ≤ sumT x.kids + 20000 := by
   intro h7
   obtain ⟨ha, hkl⟩ := sh7 h7 hsh
   obtain ⟨_, h64, _⟩ := ar_cases ha
   unfold msgT
   rcases rank_cases ha with ⟨r, _⟩ | ⟨r, _⟩ | ⟨r, _, hp, hpl⟩
   · rw [r]; simp; omega
   · rw [r]; simp
     have := least_len 3 (kid x 1) (txt (kid x 1)).1
     have h3 := h1 (kid x 1)
     have h4 := sum_tail x.kids 1
     have e : ((List.range 1).map (fun i => tlen (x.kids.getD (i + 1) nd0))).sum = tlen (x.kids.getD 1 nd0) := by simp [List.range_succ]
     rw [e] at h4
     rw [hk] at h3 ⊢
     omega
   · rw [r]; simp
     unfold spreadT
     have h4 := join_len [32] (fun i => (partsL x.name).getD i [] ++ ([58, 32] ++ leastT 2 (kid x (i + 1)) (txt (kid x (i + 1))).1)) 68 (fun i => tlen (x.kids.getD (i + 1) nd0)) (partsL x.name).length (fun i hi => by
      have hps : ((partsL x.name).getD i []).length ≤ 64 := by
       have hm : (partsL x.name).getD i [] ∈ partsL x.name := by
        rw [List.getD_eq_getElem?_getD, List.getElem?_eq_getElem hi]
        exact List.getElem_mem hi
       have hm2 : (partsL x.name).getD i [] ∈ kwA [] x.name := by rw [hp] at hm ⊢; exact hm
       have := kwA_size x.name [] _ hm2
       have e0 : ([] : Bytes).length = 0 := rfl
       omega
      have := least_len 2 (kid x (i + 1)) (txt (kid x (i + 1))).1
      have h3 := h1 (kid x (i + 1))
      rw [hk] at h3
      simp only [List.length_append, List.length_cons, List.length_nil]
      omega)
     have h5 := sum_tail x.kids (partsL x.name).length
     have h6 : (partsL x.name).length ≤ 64 := by
      rw [hp, kwA_len]
      have := List.count_le_length (a := (58 : UInt8)) (l := x.name)
      omega
     have h7 : (partsL x.name).length * (([32] : Bytes).length + 68) ≤ 64 * 69 := Nat.mul_le_mul h6 (Nat.le_refl _)
     have h8 : tlen (kid x 0) = tlen (x.kids.getD 0 nd0) := rfl
     generalize hJ : (joinF [32] (fun i => (partsL x.name).getD i [] ++ ([58, 32] ++ leastT 2 (kid x (i + 1)) (txt (kid x (i + 1))).1)) (partsL x.name).length).length = J at h4
     omega
  unfold Tb
  have goal : ∀ a b : Bytes, nodeT txt x = (a, b) → a.length + 1000 ≤ 100000 * (1 + cntL x.kids) → b.length + 1000 ≤ 100000 * (1 + cntL x.kids) → tlen x + 1000 ≤ 100000 * (1 + cntL x.kids) := by
   intro a b e ha hb
   unfold tlen
   rw [← hnt, e]
   simp only
   omega
  by_cases e1 : x.kind = 1
  · refine goal (Lib.itoa x.num) [] (by unfold nodeT; rw [if_pos e1]) ?_ (by simp; omega)
    have : (Lib.itoa x.num).length ≤ 21 := by
     have hI := hg.nice.1.2.2
     unfold Lib.itoa
     split
     · have := dec_len 18 x.num.natAbs (by omega)
       simp; omega
     · have := dec_len 18 x.num.toNat (by omega)
       omega
    omega
  by_cases e2 : x.kind = 2
  · refine goal (quoteT x.name) [] (by unfold nodeT; rw [if_neg e1, if_pos e2]) ?_ (by simp; omega)
    have := quote_len x.name
    omega
  by_cases e3 : x.kind = 3
  · refine goal (symT x.name) [] (by unfold nodeT; rw [if_neg e1, if_neg e2, if_pos e3]) ?_ (by simp; omega)
    have := quote_len x.name
    unfold symT
    split <;> simp <;> omega
  by_cases e4 : x.kind = 4
  · have hl : (listT txt x).length ≤ x.kids.length * 67 + sumT x.kids := by
     unfold listT
     have h4 := join_len [32] (fun i => elemT txt (kid x i)) 66 (fun i => tlen (x.kids.getD i nd0)) x.kids.length (fun i hi => by
      rw [← hk]
      have a1 := h1 (kid x i)
      have a2 := h2 (kid x i)
      show (elemT txt (kid x i)).length ≤ _
      unfold elemT
      split
      · simp; omega
      · split
        · rename_i h
          have : (kid x i).name.length ≤ 64 := by
           have hp := h.2
           unfold plainS at hp
           simp only [Bool.and_eq_true, decide_eq_true_eq] at hp
           exact (ar_cases hp.1.1.1.1).2.1
          omega
        · omega)
     have := sum_get x.kids x.kids.length
     simp only [List.length_cons, List.length_nil] at h4
     omega
    refine goal ([35, 40] ++ (listT txt x ++ [41])) (listT txt x) (by unfold nodeT; rw [if_neg e1, if_neg e2, if_neg e3, if_pos e4]) ?_ ?_
    · simp; omega
    · omega
  by_cases e5 : x.kind = 5
  · refine goal x.name [] (by unfold nodeT; rw [if_neg e1, if_neg e2, if_neg e3, if_neg e4, if_pos e5]) (by omega) (by simp; omega)
  by_cases e6 : x.kind = 6
  · refine goal (x.name ++ ([32, 58, 61, 32] ++ (txt (kid x 0)).1)) [] (by unfold nodeT; rw [if_neg e1, if_neg e2, if_neg e3, if_neg e4, if_neg e5, if_pos e6]) ?_ (by simp; omega)
    have := h1 (kid x 0)
    simp; omega
  by_cases e7 : x.kind = 7
  · have hm := hmsg e7
    refine goal (sendT txt x) (msgT txt x) (by unfold nodeT; rw [if_neg e1, if_neg e2, if_neg e3, if_neg e4, if_neg e5, if_neg e6, if_pos e7]) ?_ (by omega)
    unfold sendT
    have a1 := h1 (kid x 0)
    have a2 := least_len (if rankS x.name = 3 then 3 else 2) (kid x 0) (txt (kid x 0)).1
    simp only [List.length_append, List.length_cons, List.length_nil]
    omega
  by_cases e8 : x.kind = 8
  · refine goal (cascT txt x) [] (by unfold nodeT; rw [if_neg e1, if_neg e2, if_neg e3, if_neg e4, if_neg e5, if_neg e6, if_neg e7, if_pos e8]) ?_ (by simp; omega)
    unfold cascT
    have h4 := join_len [] (fun i => [59, 32] ++ (txt (kid x (i + 1))).2) 2 (fun i => tlen (x.kids.getD (i + 1) nd0)) (x.kids.length - 1) (fun i hi => by
     have a2 := h2 (kid x (i + 1))
     rw [hk] at a2
     simp only [List.length_append, List.length_cons, List.length_nil]
     omega)
    have h5 := sum_tail x.kids (x.kids.length - 1)
    have a1 := h1 (kid x 0)
    rw [hk] at a1
    simp only [List.length_append, List.length_nil] at h4 ⊢
    omega
  by_cases e9 : x.kind = 9
  · obtain ⟨n0, n1, nn⟩ := sh9 e9 hsh
    have hns := hg.nice.1.2.1
    have hget : ∀ (l : List Bytes), (∀ s ∈ l, s.length ≤ 64) → ∀ i, (l.getD i []).length ≤ 64 := by
     intro l hl i
     rw [List.getD_eq_getElem?_getD]
     cases hi : l[i]? with
     | none => simp
     | some s => simpa using hl s (List.mem_of_getElem? hi)
    have hn64 : ∀ s ∈ x.names, s.length ≤ 64 := fun s hs => isName_len (List.all_eq_true.1 nn s hs)
    have hd64 : ∀ s ∈ x.names.drop x.num.toNat, s.length ≤ 64 := fun s hs => hn64 s (List.mem_of_mem_drop hs)
    refine goal (blockT txt x) [] (by unfold nodeT; rw [if_neg e1, if_neg e2, if_neg e3, if_neg e4, if_neg e5, if_neg e6, if_neg e7, if_neg e8, if_pos e9]) ?_ (by simp; omega)
    have j1 := join_len [] (fun i => [58] ++ (x.names.getD i [] ++ [32])) 66 (fun _ => 0) x.num.toNat (fun i _ => by have := hget _ hn64 i; simp at this ⊢; omega)
    have j2 := join_len [32] (fun i => (x.names.drop x.num.toNat).getD i []) 64 (fun _ => 0) (x.names.drop x.num.toNat).length (fun i _ => by have := hget _ hd64 i; omega)
    have j3 := join_len [46, 32] (fun i => (txt (x.kids.getD i nd0)).1) 0 (fun i => tlen (x.kids.getD i nd0)) x.kids.length (fun i _ => by have := h1 (x.kids.getD i nd0); omega)
    have j4 := sum_get x.kids x.kids.length
    have s0 : ∀ n, ((List.range n).map (fun _ => 0)).sum = 0 := by intro n; induction n with
     | zero => rfl
     | succ n ih => rw [List.range_succ, List.map_append, List.sum_append_nat, ih]; rfl
    rw [s0] at j1 j2
    have hdl : (x.names.drop x.num.toNat).length ≤ 9 := by rw [List.length_drop]; omega
    have m1 : x.num.toNat * (([] : Bytes).length + 66) ≤ 9 * 66 := Nat.mul_le_mul (by omega) (by simp)
    have m2 : (x.names.drop x.num.toNat).length * (([32] : Bytes).length + 64) ≤ 9 * 65 := Nat.mul_le_mul hdl (by simp)
    unfold blockT
    have i1 : (if 0 < x.num then ([124, 32] : Bytes) else []).length ≤ 2 := by split <;> simp
    have i2 : (if x.num < (x.names.length : Int) then ([124, 32] : Bytes) ++ (joinF [32] (fun i => (x.names.drop x.num.toNat).getD i []) (x.names.drop x.num.toNat).length ++ [32, 124, 32]) else []).length ≤ 600 := by
     split
     · simp only [List.length_append, List.length_cons, List.length_nil]; omega
     · simp
    have i3 : (statsT txt x.kids).length ≤ x.kids.length * 2 + sumT x.kids := by
     unfold statsT
     simp only [List.length_cons, List.length_nil] at j3
     omega
    simp only [List.length_append, List.length_cons, List.length_nil] at i2 ⊢
    simp only [List.length_nil] at m1 j1
    omega
  by_cases e10 : x.kind = 10
  · refine goal ([94] ++ (txt (kid x 0)).1) [] (by unfold nodeT; rw [if_neg e1, if_neg e2, if_neg e3, if_neg e4, if_neg e5, if_neg e6, if_neg e7, if_neg e8, if_neg e9, if_pos e10]) ?_ (by simp; omega)
    have := h1 (kid x 0)
    simp; omega
  · exact goal [] [] (by unfold nodeT; rw [if_neg e1, if_neg e2, if_neg e3, if_neg e4, if_neg e5, if_neg e6, if_neg e7, if_neg e8, if_neg e9, if_neg e10]) (by simp; omega) (by simp; omega)
theorem Gd.len {x : Nd} (hg : Gd x) : Tb x := txt_le _ x (Nat.lt_succ_self _) hg
theorem Gd.all {l : List Nd} (h : ∀ y ∈ l, Gd y) : sumT l + 1000 * l.length ≤ 100000 * cntL l := sum_le l (fun y hy => (h y hy).len)
end Tr
end Go.Proofs.YtbdgoimbddlcoaaGreatDoor
