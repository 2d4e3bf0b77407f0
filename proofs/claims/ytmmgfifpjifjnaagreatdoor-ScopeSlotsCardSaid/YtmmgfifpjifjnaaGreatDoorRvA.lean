/- Package scope: what the names of a method mean. Plain; no program. · Package scope: facts on what the names mean; the plain law of ScopeSlots. Plain; no program. · What Resolve tells has a number. Plain; no program. · Package scope: how great slots and widths are; plain. -/
import Derived.Test.YtmmgfifpjifjnaaGreatDoorTrA
set_option linter.unusedVariables false
namespace Go.Proofs.YtmmgfifpjifjnaaGreatDoor
namespace Rv
open Tr
open Lx (Bytes)
inductive It where
 | mk (kind : Int) (name : Bytes) (num slot width : Int) (kids : List It)
namespace It
def kind : It → Int | .mk k _ _ _ _ _ => k
def name : It → Bytes | .mk _ s _ _ _ _ => s
def num : It → Int | .mk _ _ n _ _ _ => n
def slot : It → Int | .mk _ _ _ s _ _ => s
def width : It → Int | .mk _ _ _ _ d _ => d
def kids : It → List It | .mk _ _ _ _ _ l => l
theorem sz (x : It) : SizeOf.sizeOf x.kids < SizeOf.sizeOf x := by cases x; simp [kids]; omega
end It
theorem It.ind {P : List It → Prop} (nil : P []) (cons : ∀ x l, P x.kids → P l → P (x :: l)) : ∀ l, P l
 | [] => nil
 | x :: l => cons x l (It.ind nil cons x.kids) (It.ind nil cons l)
 termination_by l => SizeOf.sizeOf l
 decreasing_by all_goals (have := x.sz; simp; omega)
structure Kn where
 name : Bytes
 slot : Nat
 set : Bool
abbrev RE (α : Type) := Except (Int × Int) α
def pseu (s : Bytes) : Int := if s = [115, 101, 108, 102] then 8 else if s = [110, 105, 108] then 5 else if s = [116, 114, 117, 101] then 6 else if s = [102, 97, 108, 115, 101] then 7 else 0
def supS : Bytes := [115, 117, 112, 101, 114]
def findK (K : List Kn) (s : Bytes) : Option Kn := K.find? (fun k => k.name == s)
def fieldF : List Bytes → Bytes → Int
 | [], _ => -1
 | x :: l, s => if 0 ≤ fieldF l s then fieldF l s + 1 else if x = s then 0 else -1
def declE (F : List Bytes) (K : List Kn) (n : Nat) (s : Bytes) (p : Nat) : Int :=
 if 60 ≤ n ∨ 12 < p then 2 else if (findK K s).isSome ∨ 0 ≤ fieldF F s then 7 else if pseu s ≠ 0 ∨ s = supS then 11 else 0
def declL (F : List Bytes) (at_ : Int) : List (Bytes × Nat) → List Kn → Nat → RE (List Kn × Nat)
 | [], K, n => .ok (K, n)
 | (s, p) :: l, K, n => if declE F K n s p ≠ 0 then .error (at_, declE F K n s p) else declL F at_ l (K ++ [⟨s, n, p == 0⟩]) (n + 1)
def parN : Nat → List Bytes → List (Bytes × Nat)
 | _, [] => []
 | i, s :: l => (s, i + 1) :: parN (i + 1) l
def varN (l : List Bytes) : List (Bytes × Nat) := l.map (fun s => (s, 0))
def leafI (k : Int) (slot : Int) : It := .mk k [] 0 slot 0 []
def varR (F G : List Bytes) (K : List Kn) (n : Nat) (s : Bytes) (at_ : Int) : RE (It × Nat) :=
 if pseu s ≠ 0 then .ok (leafI (pseu s) 0, n)
 else match findK K s with
  | some k => .ok (leafI 10 k.slot, n)
  | none => if 0 ≤ fieldF F s then .ok (leafI 11 (fieldF F s), n) else if s = supS ∨ s ∉ G then .error (at_, 11) else .ok (.mk 9 s 0 0 0 [], n)
def asgR (F : List Bytes) (K : List Kn) (s : Bytes) : Option (Int × Int) :=
 if pseu s ≠ 0 ∨ s = supS then none
 else match findK K s with
  | some k => if k.set then some (12, k.slot) else none
  | none => if 0 ≤ fieldF F s then some (13, fieldF F s) else none
def superB (x : Nd) : Bool := match x.kids with | [] => false | y :: _ => y.kind == 5 && y.name == supS
def allR (F G : List Bytes) (sup : Bool) : List Nd → List Kn → Nat → RE (List It × Nat)
 | [], _, n => .ok ([], n)
 | x :: l, K, n =>
  have _h := x.sz
  have _h2 : SizeOf.sizeOf x.kids.tail ≤ SizeOf.sizeOf x.kids := by cases x.kids <;> simp
  match (if x.kind = 5 then varR F G K n x.name x.at_
   else if x.kind = 6 then match asgR F K x.name with
    | none => .error (x.at_, 11)
    | some (k, s) => match allR F G true x.kids K n with | .error E => .error E | .ok (ks, n') => .ok (.mk k [] 0 s 0 ks, n')
   else if x.kind = 7 then
    if 13 < x.kids.length then .error (x.at_, 2)
    else if sup && superB x then match allR F G true x.kids.tail K n with | .error E => .error E | .ok (ks, n') => .ok (.mk 15 x.name 0 0 0 (leafI 8 0 :: ks), n')
    else match allR F G true x.kids K n with | .error E => .error E | .ok (ks, n') => .ok (.mk 14 x.name 0 0 0 ks, n')
   else if x.kind = 8 then match allR F G false x.kids K n with | .error E => .error E | .ok (ks, n') => .ok (.mk 16 [] 0 0 0 ks, n')
   else if x.kind = 9 then match declL F x.at_ (parN 0 (x.names.take x.num.toNat) ++ varN (x.names.drop x.num.toNat)) K n with
    | .error E => .error E
    | .ok (K', n') => match allR F G true x.kids K' n' with | .error E => .error E | .ok (ks, n'') => .ok (.mk 17 [] x.num n x.names.length ks, n'')
   else if x.kind = 10 then match allR F G true x.kids K n with | .error E => .error E | .ok (ks, n') => .ok (.mk 18 [] 0 0 0 ks, n')
   else if 1 ≤ x.kind ∧ x.kind ≤ 4 then match allR F G true x.kids K n with | .error E => .error E | .ok (ks, n') => .ok (.mk x.kind x.name x.num 0 0 ks, n')
   else .ok (leafI 19 0, n) : RE (It × Nat)) with
  | .error E => .error E
  | .ok (i, n1) => match allR F G sup l K n1 with | .error E => .error E | .ok (is, n2) => .ok (i :: is, n2)
 termination_by l => SizeOf.sizeOf l
 decreasing_by all_goals (simp; omega)
def oneR (F G : List Bytes) (sup : Bool) (x : Nd) (K : List Kn) (n : Nat) : RE (It × Nat) :=
 if x.kind = 5 then varR F G K n x.name x.at_
 else if x.kind = 6 then match asgR F K x.name with
  | none => .error (x.at_, 11)
  | some (k, s) => match allR F G true x.kids K n with | .error E => .error E | .ok (ks, n') => .ok (.mk k [] 0 s 0 ks, n')
 else if x.kind = 7 then
  if 13 < x.kids.length then .error (x.at_, 2)
  else if sup && superB x then match allR F G true x.kids.tail K n with | .error E => .error E | .ok (ks, n') => .ok (.mk 15 x.name 0 0 0 (leafI 8 0 :: ks), n')
  else match allR F G true x.kids K n with | .error E => .error E | .ok (ks, n') => .ok (.mk 14 x.name 0 0 0 ks, n')
 else if x.kind = 8 then match allR F G false x.kids K n with | .error E => .error E | .ok (ks, n') => .ok (.mk 16 [] 0 0 0 ks, n')
 else if x.kind = 9 then match declL F x.at_ (parN 0 (x.names.take x.num.toNat) ++ varN (x.names.drop x.num.toNat)) K n with
  | .error E => .error E
  | .ok (K', n') => match allR F G true x.kids K' n' with | .error E => .error E | .ok (ks, n'') => .ok (.mk 17 [] x.num n x.names.length ks, n'')
 else if x.kind = 10 then match allR F G true x.kids K n with | .error E => .error E | .ok (ks, n') => .ok (.mk 18 [] 0 0 0 ks, n')
 else if 1 ≤ x.kind ∧ x.kind ≤ 4 then match allR F G true x.kids K n with | .error E => .error E | .ok (ks, n') => .ok (.mk x.kind x.name x.num 0 0 ks, n')
 else .ok (leafI 19 0, n)
theorem allR_nil (F G : List Bytes) (sup : Bool) (K : List Kn) (n : Nat) : allR F G sup [] K n = .ok ([], n) := by unfold allR; rfl
theorem allR_cons (F G : List Bytes) (sup : Bool) (x : Nd) (l : List Nd) (K : List Kn) (n : Nat) : allR F G sup (x :: l) K n = match oneR F G sup x K n with
  | .error E => .error E
  | .ok (i, n1) => match allR F G sup l K n1 with | .error E => .error E | .ok (is, n2) => .ok (i :: is, n2) := by rw [allR]; rfl
structure Cd where
 name : Bytes
 args : Int
 slots : Int
 prim : Int
 body : List It
def resR (F G : List Bytes) (m : Mt) : RE Cd :=
 if checkM m ≠ 0 then .error (m.at_, checkM m)
 else match declL F m.at_ (parN 0 m.params ++ varN m.temps) [] 0 with
  | .error E => .error E
  | .ok (K, n) => match allR F G true m.body K n with
   | .error E => .error E
   | .ok (is, n') => .ok ⟨m.name, m.params.length, n', m.prim, is⟩
end Rv
end Go.Proofs.YtmmgfifpjifjnaaGreatDoor
namespace Go.Proofs.YtmmgfifpjifjnaaGreatDoor
namespace Rv
open Tr
open Lx (Bytes)
def OkN (x : Nd) : Prop := (x.kind = 7 → x.kids ≠ []) ∧ (x.kind = 9 → 0 ≤ x.num ∧ x.num ≤ (x.names.length : Int)) ∧ (x.kind = 8 → ∀ y ∈ x.kids, y.kind = 7) ∧ 1 ≤ x.kind ∧ x.kind ≤ 11 ∧ (x.kind = 11 → x.kids = [])
def OkL (l : List Nd) : Prop := ∀ x ∈ allL l, OkN x
theorem OkL.head {x : Nd} {l : List Nd} (h : OkL (x :: l)) : OkN x := h x (by rw [allL_cons]; simp)
theorem OkL.kids {x : Nd} {l : List Nd} (h : OkL (x :: l)) : OkL x.kids := fun y hy => h y (by rw [allL_cons]; simp [hy])
theorem OkL.tail {x : Nd} {l : List Nd} (h : OkL (x :: l)) : OkL l := fun y hy => h y (by rw [allL_cons]; simp [hy])
theorem OkL.mem {l : List Nd} : ∀ {x : Nd}, OkL l → x ∈ l → OkN x ∧ OkL x.kids := by
 induction l with
 | nil => intro x _ hx; cases hx
 | cons y l ih =>
  intro x h hx
  rcases List.mem_cons.1 hx with rfl | hx
  · exact ⟨h.head, h.kids⟩
  · exact ih h.tail hx
theorem OkL.rest {l : List Nd} (h : OkL l) : OkL l.tail := by
 cases l with
 | nil => exact h
 | cons x l => exact h.tail
theorem cnt_tail (l : List Nd) : cntL l.tail ≤ cntL l := by
 cases l with
 | nil => exact Nat.le_refl _
 | cons x l => rw [cntL_cons]; show cntL l ≤ _; omega
theorem fits_ok : ∀ (B : Nat) (l : List Nd) (m0 m : Bool), cntL l < B → fitsK m0 m l = true → OkL l := by
 intro B
 induction B with
 | zero => intro l m0 m h; omega
 | succ B ih =>
  intro l
  induction l with
  | nil => intro m0 m _ _ x hx; rw [allL_nil] at hx; cases hx
  | cons x l ihl =>
   intro m0 m hB h
   rw [cntL_cons] at hB
   rw [fitsK_cons, Bool.and_eq_true] at h
   obtain ⟨h1, h2⟩ := h
   unfold fitsB at h1
   simp only [Bool.and_eq_true] at h1
   obtain ⟨⟨⟨hs, hk⟩, -⟩, hf⟩ := h1
   have k1 := ih x.kids _ _ (by omega) hf
   have k2 := ihl _ _ (by omega) h2
   intro y hy
   rw [allL_cons, List.mem_cons, List.mem_append] at hy
   rcases hy with rfl | hy | hy
   · unfold shapeB at hs
     refine ⟨fun h7 hn => ?_, fun h9 => ?_, fun h8 z hz => ?_, ?_, ?_, fun h11 => ?_⟩
     · simp [h7, bareB, hn] at hs
       omega
     · simp [h9, bareB] at hs
       omega
     · unfold kidsB at hk
       simp only [h8] at hk
       simp at hk
       cases hkk : y.kids with
       | nil => rw [hkk] at hz; cases hz
       | cons a t =>
        rw [hkk] at hk hz
        simp only [Bool.and_eq_true, List.all_eq_true] at hk
        obtain ⟨⟨e1, -⟩, e2⟩ := hk
        rcases List.mem_cons.1 hz with rfl | hz
        · simpa using e1
        · have := e2 z hz
          unfold holed at this
          simp only [Bool.and_eq_true] at this
          simpa using this.1
     · by_cases h1 : y.kind < 1
       · exfalso
         rw [if_neg (by omega), if_neg (by omega), if_neg (by omega), if_neg (by omega), if_neg (by omega), if_neg (by omega), if_neg (by omega), if_neg (by omega), if_neg (by omega)] at hs
         simp only [Bool.and_eq_true] at hs
         have := hs.1
         simp at this
         omega
       · omega
     · by_cases h1 : 11 < y.kind
       · exfalso
         rw [if_neg (by omega), if_neg (by omega), if_neg (by omega), if_neg (by omega), if_neg (by omega), if_neg (by omega), if_neg (by omega), if_neg (by omega), if_neg (by omega)] at hs
         simp only [Bool.and_eq_true] at hs
         have := hs.1
         simp at this
         omega
       · omega
     · simp [h11, bareB] at hs
       exact hs.1.2
   · exact k1 y hy
   · exact k2 y hy
theorem check_ok {m : Mt} (h : checkM m = 0) : OkL m.body ∧ Lx.arityL m.name = (m.params.length : Int) := by
 unfold checkM at h
 by_cases h1 : headB m = false
 · rw [if_pos h1] at h; omega
 · rw [if_neg h1] at h
   by_cases h2 : fitsK false false m.body = false
   · rw [if_pos h2] at h; omega
   · refine ⟨fits_ok _ m.body false false (Nat.lt_succ_self _) (by simpa using h2), ?_⟩
     unfold headB at h1
     simp only [Bool.not_eq_false, Bool.and_eq_true] at h1
     simpa using h1.1.1.1.1.1
theorem find_mem {K : List Kn} {s : Bytes} {k : Kn} (h : findK K s = some k) : k ∈ K ∧ k.name = s := by
 unfold findK at h
 exact ⟨List.mem_of_find?_eq_some h, by simpa using List.find?_some h⟩
theorem fieldF_le : ∀ (F : List Bytes) (s : Bytes), -1 ≤ fieldF F s ∧ fieldF F s < (F.length : Int)
 | [], s => by simp [fieldF]
 | x :: l, s => by
  have := fieldF_le l s
  unfold fieldF
  rw [List.length_cons]
  split
  · omega
  · split <;> omega
theorem declL_ok (F : List Bytes) (at_ : Int) : ∀ (l : List (Bytes × Nat)) (K : List Kn) (n : Nat) (K' : List Kn) (n' : Nat), declL F at_ l K n = .ok (K', n') → n' = n + l.length ∧ (n ≤ 60 → n' ≤ 60) ∧
  ∃ A, K' = K ++ A ∧ ∀ k ∈ A, n ≤ k.slot ∧ k.slot < n' ∧ ∃ q, l[k.slot - n]? = some q ∧ q.1 = k.name ∧ (k.set = true → q.2 = 0)
 | [], K, n, K', n', h => by
  cases h
  exact ⟨by simp, by omega, [], by simp, fun k hk => by cases hk⟩
 | (s, p) :: l, K, n, K', n', h => by
  unfold declL at h
  by_cases hE : declE F K n s p = 0
  · rw [if_neg (by simpa using hE)] at h
    obtain ⟨h1, h2, A, h3, h5⟩ := declL_ok F at_ l _ _ _ _ h
    have h60 : n < 60 := by
     unfold declE at hE
     by_cases h : 60 ≤ n ∨ 12 < p
     · rw [if_pos h] at hE; omega
     · omega
    refine ⟨by rw [h1, List.length_cons]; omega, by omega, ⟨s, n, p == 0⟩ :: A, by rw [h3]; simp, fun k hk => ?_⟩
    rcases List.mem_cons.1 hk with rfl | hk
    · refine ⟨Nat.le_refl _, by show n < n'; omega, (s, p), by show ((s, p) :: l)[n - n]? = _; rw [Nat.sub_self]; rfl, rfl, fun h => by simpa using h⟩
    · obtain ⟨g1, g2, q, g3, g4⟩ := h5 k hk
      refine ⟨by omega, g2, q, ?_, g4⟩
      have : k.slot - n = (k.slot - (n + 1)) + 1 := by omega
      rw [this]
      exact g3
  · rw [if_pos hE] at h; cases h
theorem parN_len : ∀ (i : Nat) (l : List Bytes), (parN i l).length = l.length
 | _, [] => rfl
 | i, s :: l => by simp [parN, parN_len (i + 1) l]
def markL (has : List Bool) (s d : Nat) : List Bool := has.mapIdx (fun j b => b || (decide (s ≤ j) && decide (j < s + d)))
theorem markL_len (has : List Bool) (s d : Nat) : (markL has s d).length = has.length := by simp [markL]
theorem markL_get (has : List Bool) (s d j : Nat) (hj : j < has.length) : (markL has s d).getD j false = (has.getD j false || (decide (s ≤ j) && decide (j < s + d))) := by
 simp [markL, List.getD_eq_getElem?_getD, hj]
def lookS (nf args : Int) (x : It) (has : List Bool) (s : Bool × Int) : Bool × Int :=
 if x.kind = 10 ∨ x.kind = 12 then (s.1 && (decide (0 ≤ x.slot) && decide (x.slot < (has.length : Int)) && has.getD x.slot.toNat false && (x.kind == 10 || decide (args ≤ x.slot))), s.2)
 else if x.kind = 11 ∨ x.kind = 13 then (s.1 && (decide (0 ≤ x.slot) && decide (x.slot < nf)), s.2)
 else if x.kind = 17 then (s.1 && (x.slot == s.2 && decide (x.num ≤ x.width)), s.2 + x.width)
 else s
def innerS (x : It) (has : List Bool) : List Bool := if x.kind = 17 then markL has x.slot.toNat x.width.toNat else has
def lookL (nf args : Int) : List It → List Bool → Bool × Int → Bool × Int
 | [], _, s => s
 | x :: l, has, s =>
  have _h := x.sz
  lookL nf args l has (lookL nf args x.kids (innerS x has) (lookS nf args x has s))
 termination_by l => SizeOf.sizeOf l
 decreasing_by all_goals (simp; omega)
theorem lookL_nil (nf args : Int) (has : List Bool) (s : Bool × Int) : lookL nf args [] has s = s := by unfold lookL; rfl
theorem lookL_cons (nf args : Int) (x : It) (l : List It) (has : List Bool) (s : Bool × Int) : lookL nf args (x :: l) has s = lookL nf args l has (lookL nf args x.kids (innerS x has) (lookS nf args x has s)) := by rw [lookL]
def Has (K : List Kn) (n : Nat) (args : Nat) (has : List Bool) : Prop := ∀ k ∈ K, k.slot < n ∧ has.getD k.slot false = true ∧ (k.set = true → args ≤ k.slot)
theorem Has.mono {K : List Kn} {n n' args : Nat} {has : List Bool} (h : Has K n args has) (hn : n ≤ n') : Has K n' args has := fun k hk => ⟨by have := (h k hk).1; omega, (h k hk).2⟩
theorem getD_lt {has : List Bool} {j : Nat} (h : has.getD j false = true) : j < has.length := by
 rcases Nat.lt_or_ge j has.length with h1 | h1
 · exact h1
 · rw [List.getD_eq_getElem?_getD, List.getElem?_eq_none h1] at h; cases h
theorem allR_le : ∀ (B : Nat) (l : List Nd) (F G : List Bytes) (sup : Bool) (K : List Kn) (n : Nat) (is : List It) (n' : Nat), cntL l < B → allR F G sup l K n = .ok (is, n') → n ≤ n' ∧ (n ≤ 60 → n' ≤ 60)
 | 0, l, _, _, _, _, _, _, _, h, _ => by omega
 | B + 1, [], F, G, sup, K, n, is, n', _, h => by rw [allR_nil] at h; cases h; omega
 | B + 1, x :: l, F, G, sup, K, n, is, n', hB, h => by
  rw [cntL_cons] at hB
  rw [allR_cons] at h
  have ht := cnt_tail x.kids
  cases h1 : oneR F G sup x K n with
  | error E => rw [h1] at h; cases h
  | ok r =>
   obtain ⟨i, n1⟩ := r
   rw [h1] at h
   simp only at h
   have hone : n ≤ n1 ∧ (n ≤ 60 → n1 ≤ 60) := by
    have ks : ∀ (s : Bool) (l' : List Nd) (K' : List Kn) (m : Nat) (g : List It → It), cntL l' ≤ cntL x.kids → (match allR F G s l' K' m with | .error E => .error E | .ok (ks, n') => .ok (g ks, n') : RE (It × Nat)) = .ok (i, n1) → m ≤ n1 ∧ (m ≤ 60 → n1 ≤ 60) := by
     intro s l' K' m g hl hh
     cases h2 : allR F G s l' K' m with
     | error E => rw [h2] at hh; cases hh
     | ok r2 =>
      obtain ⟨ks, n2⟩ := r2
      rw [h2] at hh
      cases hh
      exact allR_le B l' F G s K' m ks _ (by omega) h2
    unfold oneR at h1
    split at h1
    · unfold varR at h1
      split at h1
      · cases h1; omega
      · split at h1
        · cases h1; omega
        · split at h1
          · cases h1; omega
          · split at h1
            · cases h1
            · cases h1; omega
    · split at h1
      · split at h1
        · cases h1
        · exact ks _ _ _ _ (fun ks => .mk _ [] 0 _ 0 ks) (Nat.le_refl _) h1
      · split at h1
        · split at h1
          · cases h1
          · split at h1
            · exact ks _ _ _ _ (fun ks => .mk 15 x.name 0 0 0 (leafI 8 0 :: ks)) ht h1
            · exact ks _ _ _ _ (fun ks => .mk 14 x.name 0 0 0 ks) (Nat.le_refl _) h1
        · split at h1
          · exact ks _ _ _ _ (fun ks => .mk 16 [] 0 0 0 ks) (Nat.le_refl _) h1
          · split at h1
            · split at h1
              · cases h1
              · rename_i K2 n2 hd
                have := ks _ _ _ _ (fun ks => .mk 17 [] x.num n x.names.length ks) (Nat.le_refl _) h1
                have h3 := declL_ok _ _ _ _ _ _ _ hd
                omega
            · split at h1
              · exact ks _ _ _ _ (fun ks => .mk 18 [] 0 0 0 ks) (Nat.le_refl _) h1
              · split at h1
                · exact ks _ _ _ _ (fun ks => .mk x.kind x.name x.num 0 0 ks) (Nat.le_refl _) h1
                · cases h1; omega
   cases h3 : allR F G sup l K n1 with
   | error E => rw [h3] at h; cases h
   | ok r3 =>
    obtain ⟨is2, n2⟩ := r3
    rw [h3] at h
    cases h
    have := allR_le B l F G sup K n1 is2 _ (by omega) h3
    omega
theorem names_len (l : List Bytes) (i : Nat) : (parN 0 (l.take i) ++ varN (l.drop i)).length = l.length := by
 rw [List.length_append, parN_len]
 unfold varN
 rw [List.length_map, List.length_take, List.length_drop]; omega
theorem look_ok : ∀ (B : Nat) (l : List Nd) (F G : List Bytes) (sup : Bool) (K : List Kn) (n : Nat) (is : List It) (n' : Nat) (has : List Bool) (args : Nat) (nf : Int), cntL l < B → OkL l → allR F G sup l K n = .ok (is, n') →
  Has K n args has → args ≤ n → n' ≤ has.length → (F.length : Int) ≤ nf → lookL nf args is has (true, (n : Int)) = (true, (n' : Int))
 | 0, l, _, _, _, _, _, _, _, _, _, _, h, _, _, _, _, _, _ => by omega
 | B + 1, [], F, G, sup, K, n, is, n', has, args, nf, _, _, h, _, _, _, _ => by rw [allR_nil] at h; cases h; rw [lookL_nil]
 | B + 1, x :: l, F, G, sup, K, n, is, n', has, args, nf, hB, hO, h, hH, hA, hN, hF => by
  rw [cntL_cons] at hB
  rw [allR_cons] at h
  have ht := cnt_tail x.kids
  have hOk := hO.head
  have hOr := hO.kids
  cases h1 : oneR F G sup x K n with
  | error E => rw [h1] at h; cases h
  | ok r =>
  obtain ⟨i, n1⟩ := r
  rw [h1] at h
  simp only at h
  cases h3 : allR F G sup l K n1 with
  | error E => rw [h3] at h; cases h
  | ok r3 =>
  obtain ⟨is2, n2⟩ := r3
  rw [h3] at h
  simp only [Except.ok.injEq, Prod.mk.injEq] at h
  obtain ⟨rfl, rfl⟩ := h
  have hl1 := allR_le (cntL [x] + 1) [x] F G sup K n [i] n1 (by omega) (by rw [allR_cons, h1]; simp only [allR_nil])
  have hl2 := allR_le _ l F G sup K n1 is2 n2 (Nat.lt_succ_self _) h3
  have KS : ∀ (s : Bool) (l' : List Nd) (K' : List Kn) (m : Nat) (ks : List It) (m' : Nat) (has' : List Bool), cntL l' ≤ cntL x.kids → OkL l' → allR F G s l' K' m = .ok (ks, m') → Has K' m args has' → args ≤ m → m' ≤ has'.length → lookL nf args ks has' (true, (m : Int)) = (true, (m' : Int)) :=
   fun s l' K' m ks m' has' g1 g2 g3 g4 g5 g6 => look_ok B l' F G s K' m ks m' has' args nf (by omega) g2 g3 g4 g5 g6 hF
  have one : lookL nf args i.kids (innerS i has) (lookS nf args i has (true, (n : Int))) = (true, (n1 : Int)) := by
   have plain : ∀ (s : Bool) (l' : List Nd) (g : List It → It), cntL l' ≤ cntL x.kids → OkL l' → (∀ ks, ((g ks).kind ≠ 10 ∧ (g ks).kind ≠ 11 ∧ (g ks).kind ≠ 12 ∧ (g ks).kind ≠ 13 ∧ (g ks).kind ≠ 17) ∧ ∀ z, lookL nf args (g ks).kids has z = lookL nf args ks has z) → (match allR F G s l' K n with | .error E => .error E | .ok (ks, n') => .ok (g ks, n') : RE (It × Nat)) = .ok (i, n1) → lookL nf args i.kids (innerS i has) (lookS nf args i has (true, (n : Int))) = (true, (n1 : Int)) := by
    intro s l' g hl hk hg hh
    cases h2 : allR F G s l' K n with
    | error E => rw [h2] at hh; cases hh
    | ok r2 =>
     obtain ⟨ks, m2⟩ := r2
     rw [h2] at hh
     simp only [Except.ok.injEq, Prod.mk.injEq] at hh
     obtain ⟨rfl, rfl⟩ := hh
     obtain ⟨⟨e1, e2, e3, e4, e5⟩, e6⟩ := hg ks
     unfold innerS lookS
     rw [if_neg e5, if_neg (by omega), if_neg (by omega), if_neg e5, e6]
     exact KS _ _ _ _ _ _ _ hl hk h2 hH hA (by omega)
   have leaf : ∀ (k s : Int), k ≠ 10 → k ≠ 11 → k ≠ 12 → k ≠ 13 → k ≠ 17 → ∀ nm u, i = .mk k nm u s 0 [] → n1 = n → lookL nf args i.kids (innerS i has) (lookS nf args i has (true, (n : Int))) = (true, (n1 : Int)) := by
    intro k s e1 e2 e3 e4 e5 nm u hi hn
    subst hi hn
    unfold innerS lookS
    simp only [It.kind, It.kids]
    simp [e1, e2, e3, e4, e5, lookL_nil]
   unfold oneR at h1
   split at h1
   · unfold varR at h1
     split at h1
     · cases h1
       have : pseu x.name = 8 ∨ pseu x.name = 5 ∨ pseu x.name = 6 ∨ pseu x.name = 7 ∨ pseu x.name = 0 := by
        unfold pseu
        split
        · simp
        · split
          · simp
          · split
            · simp
            · split <;> simp
       exact leaf (pseu x.name) 0 (by omega) (by omega) (by omega) (by omega) (by omega) _ _ rfl rfl
     · split at h1
       · rename_i k hk
         cases h1
         obtain ⟨g1, g2, g3⟩ := hH k (find_mem hk).1
         have g4 := getD_lt g2
         simp only [innerS, leafI, It.kids]
         rw [lookL_nil]
         show ((true && (decide (0 ≤ (k.slot : Int)) && decide ((k.slot : Int) < (has.length : Int)) && has.getD ((k.slot : Int)).toNat false && true)), (n : Int)) = _
         rw [Int.toNat_natCast, g2, decide_eq_true (by omega), decide_eq_true (by omega)]
         rfl
       · split at h1
         · rename_i hf
           cases h1
           have := fieldF_le F x.name
           simp only [innerS, leafI, It.kids]
           rw [lookL_nil]
           show ((true && (decide (0 ≤ fieldF F x.name) && decide (fieldF F x.name < nf))), (n : Int)) = _
           rw [decide_eq_true hf, decide_eq_true (by omega)]
           rfl
         · split at h1
           · cases h1
           · cases h1
             exact leaf 9 0 (by decide) (by decide) (by decide) (by decide) (by decide) _ _ rfl rfl
   · split at h1
     · split at h1
       · cases h1
       · rename_i k sl ha
         cases h2 : allR F G true x.kids K n with
         | error E => rw [h2] at h1; cases h1
         | ok r2 =>
          obtain ⟨ks, m2⟩ := r2
          rw [h2] at h1
          simp only [Except.ok.injEq, Prod.mk.injEq] at h1
          obtain ⟨rfl, rfl⟩ := h1
          have hks := KS _ _ _ _ _ _ _ (Nat.le_refl _) hOr h2 hH hA (by omega)
          unfold asgR at ha
          split at ha
          · cases ha
          · split at ha
            · rename_i kn hk
              split at ha
              · rename_i hset
                cases ha
                obtain ⟨g1, g2, g3⟩ := hH kn (find_mem hk).1
                have g4 := getD_lt g2
                have g5 := g3 hset
                have e : lookS nf args (.mk 12 [] 0 (kn.slot : Int) 0 ks) has (true, (n : Int)) = (true, (n : Int)) := by
                 show ((true && (decide (0 ≤ (kn.slot : Int)) && decide ((kn.slot : Int) < (has.length : Int)) && has.getD ((kn.slot : Int)).toNat false && (false || decide ((args : Int) ≤ (kn.slot : Int))))), (n : Int)) = _
                 rw [Int.toNat_natCast, g2, decide_eq_true (by omega), decide_eq_true (by omega), decide_eq_true (by omega)]
                 rfl
                rw [e]
                exact hks
              · cases ha
            · split at ha
              · rename_i hf
                cases ha
                have := fieldF_le F x.name
                have e : lookS nf args (.mk 13 [] 0 (fieldF F x.name) 0 ks) has (true, (n : Int)) = (true, (n : Int)) := by
                 show ((true && (decide (0 ≤ fieldF F x.name) && decide (fieldF F x.name < nf))), (n : Int)) = _
                 rw [decide_eq_true hf, decide_eq_true (by omega)]
                 rfl
                rw [e]
                exact hks
              · cases ha
     · split at h1
       · split at h1
         · cases h1
         · split at h1
           · refine plain _ _ (fun ks => .mk 15 x.name 0 0 0 (leafI 8 0 :: ks)) ht hOr.rest (fun ks => ⟨by simp [It.kind], fun z => ?_⟩) h1
             show lookL nf args (leafI 8 0 :: ks) has z = _
             rw [lookL_cons]
             simp [leafI, It.kids, lookL_nil, lookS, It.kind]
           · exact plain _ _ (fun ks => .mk 14 x.name 0 0 0 ks) (Nat.le_refl _) hOr (fun ks => ⟨by simp [It.kind], fun z => rfl⟩) h1
       · split at h1
         · exact plain _ _ (fun ks => .mk 16 [] 0 0 0 ks) (Nat.le_refl _) hOr (fun ks => ⟨by simp [It.kind], fun z => rfl⟩) h1
         · split at h1
           · rename_i h9
             split at h1
             · cases h1
             · rename_i K2 m2 hd
               cases h2 : allR F G true x.kids K2 m2 with
               | error E => rw [h2] at h1; cases h1
               | ok r2 =>
                obtain ⟨ks, m3⟩ := r2
                rw [h2] at h1
                simp only [Except.ok.injEq, Prod.mk.injEq] at h1
                obtain ⟨rfl, rfl⟩ := h1
                obtain ⟨d1, d2, A, d3, d4⟩ := declL_ok _ _ _ _ _ _ _ hd
                rw [names_len] at d1
                have hm := allR_le _ x.kids F G true K2 m2 ks m3 (Nat.lt_succ_self _) h2
                obtain ⟨o1, o2⟩ := hOk.2.1 h9
                have e : lookS nf args (.mk 17 [] x.num (n : Int) (x.names.length : Int) ks) has (true, (n : Int)) = (true, (m2 : Int)) := by
                 show ((true && ((n : Int) == (n : Int) && decide (x.num ≤ (x.names.length : Int)))), (n : Int) + (x.names.length : Int)) = _
                 rw [decide_eq_true o2, beq_self_eq_true, show (n : Int) + (x.names.length : Int) = (m2 : Int) by omega]
                 rfl
                rw [e]
                show lookL nf args ks (markL has ((n : Int)).toNat ((x.names.length : Int)).toNat) _ = _
                rw [Int.toNat_natCast, Int.toNat_natCast]
                refine KS _ _ _ _ _ _ _ (Nat.le_refl _) hOr h2 (fun k hk => ?_) (by omega) (by rw [markL_len]; omega)
                rw [d3] at hk
                rcases List.mem_append.1 hk with hk | hk
                · obtain ⟨g1, g2, g3⟩ := hH k hk
                  refine ⟨by omega, ?_, g3⟩
                  rw [markL_get _ _ _ _ (getD_lt g2), g2]; rfl
                · obtain ⟨g1, g2, q, g3, g4, g5⟩ := d4 k hk
                  refine ⟨g2, ?_, fun _ => by omega⟩
                  rw [markL_get _ _ _ _ (by omega)]
                  simp
                  right; omega
           · split at h1
             · exact plain _ _ (fun ks => .mk 18 [] 0 0 0 ks) (Nat.le_refl _) hOr (fun ks => ⟨by simp [It.kind], fun z => rfl⟩) h1
             · split at h1
               · rename_i hk14
                 exact plain _ _ (fun ks => .mk x.kind x.name x.num 0 0 ks) (Nat.le_refl _) hOr (fun ks => ⟨by simp only [It.kind]; omega, fun z => rfl⟩) h1
               · cases h1
                 exact leaf 19 0 (by decide) (by decide) (by decide) (by decide) (by decide) _ _ rfl rfl
  rw [lookL_cons, one]
  exact look_ok B l F G sup K n1 is2 n2 has args nf (by omega) hO.tail h3 (hH.mono hl1.1) (by omega) hN hF
def hasN (next N : Nat) : List Bool := (List.range N).map (fun j => decide (j < next))
theorem hasN_len (next N : Nat) : (hasN next N).length = N := by simp [hasN]
theorem hasN_get (next N j : Nat) (h1 : j < next) (h2 : next ≤ N) : (hasN next N).getD j false = true := by
 have h3 : j < N := by omega
 simp [hasN, List.getD_eq_getElem?_getD, h3, h1]
theorem parN_get : ∀ (i : Nat) (l : List Bytes) (j : Nat) (q : Bytes × Nat), (parN i l)[j]? = some q → q.2 ≠ 0
 | _, [], j, q, h => by simp [parN] at h
 | i, s :: l, 0, q, h => by simp [parN] at h; subst h; simp
 | i, s :: l, j + 1, q, h => parN_get (i + 1) l j q (by simpa [parN] using h)
theorem slots_law {F G : List Bytes} {m : Mt} {c : Cd} (h : resR F G m = .ok c) (nf : Int) (hF : (F.length : Int) ≤ nf) : ∃ N : Nat, c.args = (m.params.length : Int) ∧ c.slots = (N : Int) ∧ m.params.length + m.temps.length ≤ N ∧ N ≤ 60 ∧
  lookL nf c.args c.body (hasN (m.params.length + m.temps.length) N) (true, ((m.params.length + m.temps.length : Nat) : Int)) = (true, (N : Int)) := by
 unfold resR at h
 by_cases hc : checkM m = 0
 · rw [if_neg (by simpa using hc)] at h
   obtain ⟨hO, -⟩ := check_ok hc
   cases hd : declL F m.at_ (parN 0 m.params ++ varN m.temps) [] 0 with
   | error E => rw [hd] at h; cases h
   | ok r =>
    obtain ⟨K, n⟩ := r
    rw [hd] at h
    simp only at h
    cases ha : allR F G true m.body K n with
    | error E => rw [ha] at h; cases h
    | ok r2 =>
     obtain ⟨is, N⟩ := r2
     rw [ha] at h
     simp only [Except.ok.injEq] at h
     subst h
     obtain ⟨d1, d2, A, d3, d4⟩ := declL_ok _ _ _ _ _ _ _ hd
     have hlen : (parN 0 m.params ++ varN m.temps).length = m.params.length + m.temps.length := by
      rw [List.length_append, parN_len]; simp [varN]
     rw [hlen] at d1
     have hm := allR_le _ m.body F G true K n is N (Nat.lt_succ_self _) ha
     refine ⟨N, rfl, rfl, by omega, by omega, ?_⟩
     have e : m.params.length + m.temps.length = n := by omega
     rw [e]
     refine look_ok _ m.body F G true K n is N _ m.params.length nf (Nat.lt_succ_self _) hO ha (fun k hk => ?_) (by omega) (by rw [hasN_len]; omega) hF
     rw [d3, List.nil_append] at hk
     obtain ⟨g1, g2, q, g3, g4, g5⟩ := d4 k hk
     refine ⟨g2, hasN_get _ _ _ g2 (by omega), fun hs => ?_⟩
     rw [Nat.sub_zero] at g3
     by_cases hp : k.slot < m.params.length
     · exfalso
       rw [List.getElem?_append_left (by rw [parN_len]; exact hp)] at g3
       exact parN_get _ _ _ _ g3 (g5 hs)
     · omega
 · rw [if_pos (by simpa using hc)] at h; cases h
end Rv
end Go.Proofs.YtmmgfifpjifjnaaGreatDoor
namespace Go.Proofs.YtmmgfifpjifjnaaGreatDoor
namespace Rv
open Tr
open Lx (Bytes)
theorem decl_ne {F : List Bytes} (a : Int) : ∀ (l : List (Bytes × Nat)) (K : List Kn) (n : Nat) (p e : Int), declL F a l K n = .error (p, e) → p = a ∧ e ≠ 0
 | [], K, n, p, e, h => by unfold declL at h; cases h
 | (s, q) :: l, K, n, p, e, h => by
  unfold declL at h
  by_cases he : declE F K n s q ≠ 0
  · rw [if_pos he] at h
    obtain ⟨rfl, rfl⟩ := Prod.mk.inj (Except.error.inj h)
    exact ⟨rfl, he⟩
  · rw [if_neg he] at h
    exact decl_ne a l _ _ _ _ h
theorem all_ne : ∀ (B : Nat) (l : List Nd) (F G : List Bytes) (sup : Bool) (K : List Kn) (n : Nat) (p e : Int), cntL l < B → allR F G sup l K n = .error (p, e) → e ≠ 0 := by
 intro B
 induction B with
 | zero => intro l _ _ _ _ _ _ _ hB; omega
 | succ B ih =>
  intro l
  induction l with
  | nil => intro F G sup K n p e hB h; rw [allR_nil] at h; cases h
  | cons x l ihl =>
   intro F G sup K n p e hB h
   rw [cntL_cons] at hB
   rw [allR_cons] at h
   have hkt : cntL x.kids.tail < B := by have := cnt_tail x.kids; omega
   cases ho : oneR F G sup x K n with
   | ok y =>
    obtain ⟨i, n1⟩ := y
    rw [ho] at h
    simp only at h
    cases hl : allR F G sup l K n1 with
    | ok z => rw [hl] at h; cases h
    | error E =>
     rw [hl] at h
     obtain rfl := Except.error.inj h
     exact ihl F G sup K n1 p e (by omega) hl
   | error E =>
    rw [ho] at h
    obtain rfl := Except.error.inj h
    unfold oneR at ho
    split at ho
    · unfold varR at ho
      split at ho
      · cases ho
      · split at ho
        · cases ho
        · split at ho
          · cases ho
          · split at ho
            · obtain ⟨-, rfl⟩ := Prod.mk.inj (Except.error.inj ho); decide
            · cases ho
    · split at ho
      · split at ho
        · obtain ⟨-, rfl⟩ := Prod.mk.inj (Except.error.inj ho); decide
        · (split at ho <;> first | (rename_i hr; obtain rfl := Except.error.inj ho; exact ih _ F G _ _ _ p e (by first | exact hkt | omega) hr) | cases ho)
      · split at ho
        · split at ho
          · obtain ⟨-, rfl⟩ := Prod.mk.inj (Except.error.inj ho); decide
          · split at ho
            · (split at ho <;> first | (rename_i hr; obtain rfl := Except.error.inj ho; exact ih _ F G _ _ _ p e (by first | exact hkt | omega) hr) | cases ho)
            · (split at ho <;> first | (rename_i hr; obtain rfl := Except.error.inj ho; exact ih _ F G _ _ _ p e (by first | exact hkt | omega) hr) | cases ho)
        · split at ho
          · (split at ho <;> first | (rename_i hr; obtain rfl := Except.error.inj ho; exact ih _ F G _ _ _ p e (by first | exact hkt | omega) hr) | cases ho)
          · split at ho
            · split at ho
              · rename_i E' hd
                obtain rfl := Except.error.inj ho
                exact (decl_ne _ _ _ _ _ _ hd).2
              · (split at ho <;> first | (rename_i hr; obtain rfl := Except.error.inj ho; exact ih _ F G _ _ _ p e (by first | exact hkt | omega) hr) | cases ho)
            · split at ho
              · (split at ho <;> first | (rename_i hr; obtain rfl := Except.error.inj ho; exact ih _ F G _ _ _ p e (by first | exact hkt | omega) hr) | cases ho)
              · split at ho
                · (split at ho <;> first | (rename_i hr; obtain rfl := Except.error.inj ho; exact ih _ F G _ _ _ p e (by first | exact hkt | omega) hr) | cases ho)
                · cases ho
theorem res_ne {F G : List Bytes} {m : Mt} {p e : Int} (h : resR F G m = .error (p, e)) : e ≠ 0 := by
 unfold resR at h
 split at h
 · rename_i hc
   obtain ⟨-, rfl⟩ := Prod.mk.inj (Except.error.inj h)
   exact hc
 · split at h
   · rename_i E hd
     obtain rfl := Except.error.inj h
     exact (decl_ne _ _ _ _ _ _ hd).2
   · split at h
     · rename_i E hd
       obtain rfl := Except.error.inj h
       exact all_ne _ _ _ _ _ _ _ _ _ (Nat.lt_succ_self _) hd
     · cases h
end Rv
end Go.Proofs.YtmmgfifpjifjnaaGreatDoor
namespace Go.Proofs.YtmmgfifpjifjnaaGreatDoor
namespace Rv
open Tr
open Lx (Bytes)
def FineI (x : It) : Prop := 0 ≤ x.slot ∧ x.slot ≤ 1000 ∧ 0 ≤ x.width ∧ x.width ≤ 1000
inductive FineL : List It → Prop
 | nil : FineL []
 | cons {x : It} {l : List It} (h : FineI x) (hk : FineL x.kids) (hl : FineL l) : FineL (x :: l)
def wsumL : List It → Int
 | [] => 0
 | x :: l =>
  have _h := x.sz
  x.width + wsumL x.kids + wsumL l
 termination_by l => SizeOf.sizeOf l
 decreasing_by all_goals (simp; omega)
theorem wsumL_nil : wsumL [] = 0 := by unfold wsumL; rfl
theorem wsumL_cons (x : It) (l : List It) : wsumL (x :: l) = x.width + wsumL x.kids + wsumL l := by rw [wsumL]
theorem FineL.head {x : It} {l : List It} (h : FineL (x :: l)) : FineI x ∧ FineL x.kids ∧ FineL l := by
 cases h with
 | cons a b c => exact ⟨a, b, c⟩
theorem wsum_nn {l : List It} (h : FineL l) : 0 ≤ wsumL l := by
 induction h with
 | nil => rw [wsumL_nil]; exact Int.le_refl _
 | cons a b c i1 i2 => rw [wsumL_cons]; have := a.2.2.1; omega
theorem look_le (nf args : Int) : ∀ {l : List It}, FineL l → ∀ (has : List Bool) (s : Bool × Int), s.2 ≤ (lookL nf args l has s).2 ∧ (lookL nf args l has s).2 ≤ s.2 + wsumL l := by
 intro l h
 induction h with
 | nil => intro has s; rw [lookL_nil, wsumL_nil]; omega
 | @cons x l a b c i1 i2 =>
  intro has s
  rw [lookL_cons, wsumL_cons]
  have h1 : s.2 ≤ (lookS nf args x has s).2 ∧ (lookS nf args x has s).2 ≤ s.2 + x.width := by
   have := a.2.2.1
   unfold lookS
   split
   · exact ⟨Int.le_refl _, by show s.2 ≤ _; omega⟩
   · split
     · exact ⟨Int.le_refl _, by show s.2 ≤ _; omega⟩
     · split
       · exact ⟨by show s.2 ≤ s.2 + x.width; omega, Int.le_refl _⟩
       · exact ⟨Int.le_refl _, by omega⟩
  have h2 := i1 (innerS x has) (lookS nf args x has s)
  have h3 := i2 has (lookL nf args x.kids (innerS x has) (lookS nf args x has s))
  omega
theorem fine_ok : ∀ (B : Nat) (l : List Nd) (F G : List Bytes) (sup : Bool) (K : List Kn) (n : Nat) (is : List It) (n' : Nat), cntL l < B → allR F G sup l K n = .ok (is, n') → (∀ k ∈ K, k.slot ≤ 1000) → n ≤ 60 → F.length ≤ 1000 → FineL is ∧ (n : Int) + wsumL is ≤ (n' : Int)
 | 0, l, _, _, _, _, _, _, _, h, _, _, _, _ => by omega
 | B + 1, [], F, G, sup, K, n, is, n', _, h, _, _, _ => by rw [allR_nil] at h; cases h; exact ⟨.nil, by rw [wsumL_nil]; omega⟩
 | B + 1, x :: l, F, G, sup, K, n, is, n', hB, h, hK, hn, hF => by
  rw [cntL_cons] at hB
  rw [allR_cons] at h
  have ht := cnt_tail x.kids
  cases h1 : oneR F G sup x K n with
  | error E => rw [h1] at h; cases h
  | ok r =>
   obtain ⟨i, n1⟩ := r
   have hl1 := allR_le (cntL [x] + 1) [x] F G sup K n [i] n1 (by omega) (by rw [allR_cons, h1]; simp only [allR_nil])
   rw [h1] at h
   simp only at h
   have hfl := fieldF_le F x.name
   have hone : FineI i ∧ FineL i.kids ∧ (n : Int) + i.width + wsumL i.kids ≤ (n1 : Int) := by
    have ks : ∀ (s : Bool) (l' : List Nd) (K' : List Kn) (m : Nat) (g : List It → It), cntL l' ≤ cntL x.kids → (∀ k ∈ K', k.slot ≤ 1000) → m ≤ 60 → (match allR F G s l' K' m with | .error E => .error E | .ok (ks, n') => .ok (g ks, n') : RE (It × Nat)) = .ok (i, n1) → ∃ ks, i = g ks ∧ FineL ks ∧ (m : Int) + wsumL ks ≤ (n1 : Int) := by
     intro s l' K' m g hl hK' hm hh
     cases h2 : allR F G s l' K' m with
     | error E => rw [h2] at hh; cases hh
     | ok r2 =>
      obtain ⟨ks, n2⟩ := r2
      rw [h2] at hh
      cases hh
      exact ⟨ks, rfl, fine_ok B l' F G s K' m ks _ (by omega) h2 hK' hm hF⟩
    have leaf : ∀ (k s : Int), 0 ≤ s → s ≤ 1000 → n1 = n → FineI (leafI k s) ∧ FineL (leafI k s).kids ∧ (n : Int) + (leafI k s).width + wsumL (leafI k s).kids ≤ (n1 : Int) := by
     intro k s h1 h2 h3
     refine ⟨⟨h1, h2, Int.le_refl _, by show (0 : Int) ≤ 1000; omega⟩, .nil, ?_⟩
     show (n : Int) + 0 + wsumL [] ≤ _
     rw [wsumL_nil]; omega
    unfold oneR at h1
    split at h1
    · unfold varR at h1
      split at h1
      · cases h1; exact leaf _ _ (by omega) (by omega) rfl
      · split at h1
        · rename_i k hk
          have := hK k (find_mem hk).1
          cases h1; exact leaf _ _ (by omega) (by omega) rfl
        · split at h1
          · cases h1; exact leaf _ _ (by omega) (by omega) rfl
          · split at h1
            · cases h1
            · cases h1
              refine ⟨⟨Int.le_refl _, by show (0 : Int) ≤ 1000; omega, Int.le_refl _, by show (0 : Int) ≤ 1000; omega⟩, .nil, ?_⟩
              show (n : Int) + 0 + wsumL [] ≤ _
              rw [wsumL_nil]; omega
    · split at h1
      · split at h1
        · cases h1
        · rename_i k s ha
          obtain ⟨q, rfl, h4, h5⟩ := ks _ _ _ _ (fun ks => .mk k [] 0 s 0 ks) (Nat.le_refl _) hK hn h1
          have hs : 0 ≤ s ∧ s ≤ 1000 := by
           unfold asgR at ha
           split at ha
           · cases ha
           · split at ha
             · rename_i k2 hk2
               have := hK k2 (find_mem hk2).1
               split at ha
               · cases ha; omega
               · cases ha
             · split at ha
               · cases ha; omega
               · cases ha
          exact ⟨⟨hs.1, hs.2, Int.le_refl _, by show (0 : Int) ≤ 1000; omega⟩, h4, by show (n : Int) + 0 + wsumL q ≤ _; omega⟩
      · have plain : ∀ (q : List It) (k : Int) (nm : Bytes) (nu : Int), FineL q → (n : Int) + wsumL q ≤ (n1 : Int) → FineI (.mk k nm nu 0 0 q) ∧ FineL (It.mk k nm nu 0 0 q).kids ∧ (n : Int) + (It.mk k nm nu 0 0 q).width + wsumL (It.mk k nm nu 0 0 q).kids ≤ (n1 : Int) := fun q k nm nu h4 h5 =>
         ⟨⟨Int.le_refl _, by show (0 : Int) ≤ 1000; omega, Int.le_refl _, by show (0 : Int) ≤ 1000; omega⟩, h4, by show (n : Int) + 0 + wsumL q ≤ _; omega⟩
        split at h1
        · split at h1
          · cases h1
          · split at h1
            · obtain ⟨q, rfl, h4, h5⟩ := ks _ _ _ _ (fun ks => .mk 15 x.name 0 0 0 (leafI 8 0 :: ks)) ht hK hn h1
              refine plain _ _ _ _ (.cons ⟨Int.le_refl _, by show (0 : Int) ≤ 1000; omega, Int.le_refl _, by show (0 : Int) ≤ 1000; omega⟩ .nil h4) ?_
              rw [wsumL_cons]
              show (n : Int) + (0 + wsumL [] + wsumL q) ≤ _
              rw [wsumL_nil]; omega
            · obtain ⟨q, rfl, h4, h5⟩ := ks _ _ _ _ (fun ks => .mk 14 x.name 0 0 0 ks) (Nat.le_refl _) hK hn h1
              exact plain _ _ _ _ h4 h5
        · split at h1
          · obtain ⟨q, rfl, h4, h5⟩ := ks _ _ _ _ (fun ks => .mk 16 [] 0 0 0 ks) (Nat.le_refl _) hK hn h1
            exact plain _ _ _ _ h4 h5
          · split at h1
            · split at h1
              · cases h1
              · rename_i K2 n2 hd
                obtain ⟨d1, d2, A, d3, d4⟩ := declL_ok _ _ _ _ _ _ _ hd
                rw [names_len] at d1
                have hn2 := d2 hn
                obtain ⟨q, rfl, h4, h5⟩ := ks _ _ _ _ (fun ks => .mk 17 [] x.num n x.names.length ks) (Nat.le_refl _) (fun k hk => by
                 rw [d3] at hk
                 rcases List.mem_append.1 hk with hk | hk
                 · exact hK k hk
                 · have := (d4 k hk).2.1; omega) hn2 h1
                exact ⟨⟨by show (0 : Int) ≤ (n : Int); omega, by show (n : Int) ≤ 1000; omega, by show (0 : Int) ≤ (x.names.length : Int); omega, by show (x.names.length : Int) ≤ 1000; omega⟩, h4, by show (n : Int) + (x.names.length : Int) + wsumL q ≤ _; omega⟩
            · split at h1
              · obtain ⟨q, rfl, h4, h5⟩ := ks _ _ _ _ (fun ks => .mk 18 [] 0 0 0 ks) (Nat.le_refl _) hK hn h1
                exact plain _ _ _ _ h4 h5
              · split at h1
                · obtain ⟨q, rfl, h4, h5⟩ := ks _ _ _ _ (fun ks => .mk x.kind x.name x.num 0 0 ks) (Nat.le_refl _) hK hn h1
                  exact plain _ _ _ _ h4 h5
                · cases h1; exact leaf _ _ (by omega) (by omega) rfl
   cases h3 : allR F G sup l K n1 with
   | error E => rw [h3] at h; cases h
   | ok r3 =>
    obtain ⟨is2, n2⟩ := r3
    rw [h3] at h
    cases h
    obtain ⟨e1, e2⟩ := fine_ok B l F G sup K n1 is2 _ (by omega) h3 hK (hl1.2 hn) hF
    exact ⟨.cons hone.1 hone.2.1 e1, by rw [wsumL_cons]; omega⟩
theorem fine_res {F G : List Bytes} {m : Mt} {c : Cd} (h : resR F G m = .ok c) (hF : F.length ≤ 1000) : FineL c.body ∧ wsumL c.body ≤ 60 := by
 unfold resR at h
 split at h
 · cases h
 · split at h
   · cases h
   · rename_i K n hd
     split at h
     · cases h
     · rename_i is n' ha
       cases h
       obtain ⟨d1, d2, A, d3, d4⟩ := declL_ok _ _ _ _ _ _ _ hd
       have hn := d2 (by omega)
       have hm := allR_le _ m.body F G true K n is n' (Nat.lt_succ_self _) ha
       obtain ⟨e1, e2⟩ := fine_ok _ m.body F G true K n is n' (Nat.lt_succ_self _) ha (fun k hk => by
        rw [d3, List.nil_append] at hk
        have := (d4 k hk).2.1
        omega) hn hF
       exact ⟨e1, by have := hm.2 hn; show wsumL is ≤ 60; omega⟩
end Rv
end Go.Proofs.YtmmgfifpjifjnaaGreatDoor
