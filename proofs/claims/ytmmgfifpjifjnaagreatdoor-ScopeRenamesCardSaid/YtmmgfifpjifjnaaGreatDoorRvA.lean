/- Package scope: what the names of a method mean. Plain; no program. · Package scope: facts on what the names mean; the plain law of ScopeSlots. Plain; no program. · What Resolve tells has a number. Plain; no program. -/
import Derived.Test.YtmmgfifpjifjnaaGreatDoorTrA
set_option linter.unusedVariables false
namespace Go.Proofs.YtmmgfifpjifjnaaGreatDoor
namespace Rv
open Tr
open Lx (Bytes)
inductive It where
 | mk (kind : Int) (name : Bytes) (num slot width : Int) (kids : List It)
namespace It
def kind : It → Int | .mk k _ _ _ _ _ => k
def name : It → Bytes | .mk _ s _ _ _ _ => s
def num : It → Int | .mk _ _ n _ _ _ => n
def slot : It → Int | .mk _ _ _ s _ _ => s
def width : It → Int | .mk _ _ _ _ d _ => d
def kids : It → List It | .mk _ _ _ _ _ l => l
theorem sz (x : It) : SizeOf.sizeOf x.kids < SizeOf.sizeOf x := by cases x; simp [kids]; omega
end It
theorem It.ind {P : List It → Prop} (nil : P []) (cons : ∀ x l, P x.kids → P l → P (x :: l)) : ∀ l, P l
 | [] => nil
 | x :: l => cons x l (It.ind nil cons x.kids) (It.ind nil cons l)
 termination_by l => SizeOf.sizeOf l
 decreasing_by all_goals (have := x.sz; simp; omega)
structure Kn where
 name : Bytes
 slot : Nat
 set : Bool
abbrev RE (α : Type) := Except (Int × Int) α
def pseu (s : Bytes) : Int := if s = [115, 101, 108, 102] then 8 else if s = [110, 105, 108] then 5 else if s = [116, 114, 117, 101] then 6 else if s = [102, 97, 108, 115, 101] then 7 else 0
def supS : Bytes := [115, 117, 112, 101, 114]
def findK (K : List Kn) (s : Bytes) : Option Kn := K.find? (fun k => k.name == s)
def fieldF : List Bytes → Bytes → Int
 | [], _ => -1
 | x :: l, s => if 0 ≤ fieldF l s then fieldF l s + 1 else if x = s then 0 else -1
def declE (F : List Bytes) (K : List Kn) (n : Nat) (s : Bytes) (p : Nat) : Int :=
 if 60 ≤ n ∨ 12 < p then 2 else if (findK K s).isSome ∨ 0 ≤ fieldF F s then 7 else if pseu s ≠ 0 ∨ s = supS then 11 else 0
def declL (F : List Bytes) (at_ : Int) : List (Bytes × Nat) → List Kn → Nat → RE (List Kn × Nat)
 | [], K, n => .ok (K, n)
 | (s, p) :: l, K, n => if declE F K n s p ≠ 0 then .error (at_, declE F K n s p) else declL F at_ l (K ++ [⟨s, n, p == 0⟩]) (n + 1)
def parN : Nat → List Bytes → List (Bytes × Nat)
 | _, [] => []
 | i, s :: l => (s, i + 1) :: parN (i + 1) l
def varN (l : List Bytes) : List (Bytes × Nat) := l.map (fun s => (s, 0))
def leafI (k : Int) (slot : Int) : It := .mk k [] 0 slot 0 []
def varR (F G : List Bytes) (K : List Kn) (n : Nat) (s : Bytes) (at_ : Int) : RE (It × Nat) :=
 if pseu s ≠ 0 then .ok (leafI (pseu s) 0, n)
 else match findK K s with
  | some k => .ok (leafI 10 k.slot, n)
  | none => if 0 ≤ fieldF F s then .ok (leafI 11 (fieldF F s), n) else if s = supS ∨ s ∉ G then .error (at_, 11) else .ok (.mk 9 s 0 0 0 [], n)
def asgR (F : List Bytes) (K : List Kn) (s : Bytes) : Option (Int × Int) :=
 if pseu s ≠ 0 ∨ s = supS then none
 else match findK K s with
  | some k => if k.set then some (12, k.slot) else none
  | none => if 0 ≤ fieldF F s then some (13, fieldF F s) else none
def superB (x : Nd) : Bool := match x.kids with | [] => false | y :: _ => y.kind == 5 && y.name == supS
def allR (F G : List Bytes) (sup : Bool) : List Nd → List Kn → Nat → RE (List It × Nat)
 | [], _, n => .ok ([], n)
 | x :: l, K, n =>
  have _h := x.sz
  have _h2 : SizeOf.sizeOf x.kids.tail ≤ SizeOf.sizeOf x.kids := by cases x.kids <;> simp
  match (if x.kind = 5 then varR F G K n x.name x.at_
   else if x.kind = 6 then match asgR F K x.name with
    | none => .error (x.at_, 11)
    | some (k, s) => match allR F G true x.kids K n with | .error E => .error E | .ok (ks, n') => .ok (.mk k [] 0 s 0 ks, n')
   else if x.kind = 7 then
    if 13 < x.kids.length then .error (x.at_, 2)
    else if sup && superB x then match allR F G true x.kids.tail K n with | .error E => .error E | .ok (ks, n') => .ok (.mk 15 x.name 0 0 0 (leafI 8 0 :: ks), n')
    else match allR F G true x.kids K n with | .error E => .error E | .ok (ks, n') => .ok (.mk 14 x.name 0 0 0 ks, n')
   else if x.kind = 8 then match allR F G false x.kids K n with | .error E => .error E | .ok (ks, n') => .ok (.mk 16 [] 0 0 0 ks, n')
   else if x.kind = 9 then match declL F x.at_ (parN 0 (x.names.take x.num.toNat) ++ varN (x.names.drop x.num.toNat)) K n with
    | .error E => .error E
    | .ok (K', n') => match allR F G true x.kids K' n' with | .error E => .error E | .ok (ks, n'') => .ok (.mk 17 [] x.num n x.names.length ks, n'')
   else if x.kind = 10 then match allR F G true x.kids K n with | .error E => .error E | .ok (ks, n') => .ok (.mk 18 [] 0 0 0 ks, n')
   else if 1 ≤ x.kind ∧ x.kind ≤ 4 then match allR F G true x.kids K n with | .error E => .error E | .ok (ks, n') => .ok (.mk x.kind x.name x.num 0 0 ks, n')
   else .ok (leafI 19 0, n) : RE (It × Nat)) with
  | .error E => .error E
  | .ok (i, n1) => match allR F G sup l K n1 with | .error E => .error E | .ok (is, n2) => .ok (i :: is, n2)
 termination_by l => SizeOf.sizeOf l
 decreasing_by all_goals (simp; omega)
def oneR (F G : List Bytes) (sup : Bool) (x : Nd) (K : List Kn) (n : Nat) : RE (It × Nat) :=
 if x.kind = 5 then varR F G K n x.name x.at_
 else if x.kind = 6 then match asgR F K x.name with
  | none => .error (x.at_, 11)
  | some (k, s) => match allR F G true x.kids K n with | .error E => .error E | .ok (ks, n') => .ok (.mk k [] 0 s 0 ks, n')
 else if x.kind = 7 then
  if 13 < x.kids.length then .error (x.at_, 2)
  else if sup && superB x then match allR F G true x.kids.tail K n with | .error E => .error E | .ok (ks, n') => .ok (.mk 15 x.name 0 0 0 (leafI 8 0 :: ks), n')
  else match allR F G true x.kids K n with | .error E => .error E | .ok (ks, n') => .ok (.mk 14 x.name 0 0 0 ks, n')
 else if x.kind = 8 then match allR F G false x.kids K n with | .error E => .error E | .ok (ks, n') => .ok (.mk 16 [] 0 0 0 ks, n')
 else if x.kind = 9 then match declL F x.at_ (parN 0 (x.names.take x.num.toNat) ++ varN (x.names.drop x.num.toNat)) K n with
  | .error E => .error E
  | .ok (K', n') => match allR F G true x.kids K' n' with | .error E => .error E | .ok (ks, n'') => .ok (.mk 17 [] x.num n x.names.length ks, n'')
 else if x.kind = 10 then match allR F G true x.kids K n with | .error E => .error E | .ok (ks, n') => .ok (.mk 18 [] 0 0 0 ks, n')
 else if 1 ≤ x.kind ∧ x.kind ≤ 4 then match allR F G true x.kids K n with | .error E => .error E | .ok (ks, n') => .ok (.mk x.kind x.name x.num 0 0 ks, n')
 else .ok (leafI 19 0, n)
theorem allR_nil (F G : List Bytes) (sup : Bool) (K : List Kn) (n : Nat) : allR F G sup [] K n = .ok ([], n) := by unfold allR; rfl
theorem allR_cons (F G : List Bytes) (sup : Bool) (x : Nd) (l : List Nd) (K : List Kn) (n : Nat) : allR F G sup (x :: l) K n = match oneR F G sup x K n with
  | .error E => .error E
  | .ok (i, n1) => match allR F G sup l K n1 with | .error E => .error E | .ok (is, n2) => .ok (i :: is, n2) := by rw [allR]; rfl
structure Cd where
 name : Bytes
 args : Int
 slots : Int
 prim : Int
 body : List It
def resR (F G : List Bytes) (m : Mt) : RE Cd :=
 if checkM m ≠ 0 then .error (m.at_, checkM m)
 else match declL F m.at_ (parN 0 m.params ++ varN m.temps) [] 0 with
  | .error E => .error E
  | .ok (K, n) => match allR F G true m.body K n with
   | .error E => .error E
   | .ok (is, n') => .ok ⟨m.name, m.params.length, n', m.prim, is⟩
end Rv
end Go.Proofs.YtmmgfifpjifjnaaGreatDoor
namespace Go.Proofs.YtmmgfifpjifjnaaGreatDoor
namespace Rv
open Tr
open Lx (Bytes)
def OkN (x : Nd) : Prop := (x.kind = 7 → x.kids ≠ []) ∧ (x.kind = 9 → 0 ≤ x.num ∧ x.num ≤ (x.names.length : Int)) ∧ (x.kind = 8 → ∀ y ∈ x.kids, y.kind = 7) ∧ 1 ≤ x.kind ∧ x.kind ≤ 11 ∧ (x.kind = 11 → x.kids = [])
def OkL (l : List Nd) : Prop := ∀ x ∈ allL l, OkN x
theorem OkL.head {x : Nd} {l : List Nd} (h : OkL (x :: l)) : OkN x := h x (by rw [allL_cons]; simp)
theorem OkL.kids {x : Nd} {l : List Nd} (h : OkL (x :: l)) : OkL x.kids := fun y hy => h y (by rw [allL_cons]; simp [hy])
theorem OkL.tail {x : Nd} {l : List Nd} (h : OkL (x :: l)) : OkL l := fun y hy => h y (by rw [allL_cons]; simp [hy])
theorem OkL.mem {l : List Nd} : ∀ {x : Nd}, OkL l → x ∈ l → OkN x ∧ OkL x.kids := by
 induction l with
 | nil => intro x _ hx; cases hx
 | cons y l ih =>
  intro x h hx
  rcases List.mem_cons.1 hx with rfl | hx
  · exact ⟨h.head, h.kids⟩
  exact ih h.tail hx
theorem OkL.rest {l : List Nd} (h : OkL l) : OkL l.tail := by
 cases l with
 | nil => exact h
 | cons x l => exact h.tail
theorem cnt_tail (l : List Nd) : cntL l.tail ≤ cntL l := by
 cases l with
 | nil => exact Nat.le_refl _
 | cons x l => rw [cntL_cons]; show cntL l ≤ _; omega
theorem fits_ok : ∀ (B : Nat) (l : List Nd) (m0 m : Bool), cntL l < B → fitsK m0 m l = true → OkL l := by
 intro B
 induction B with
 | zero => intro l m0 m h; omega
 | succ B ih =>
  intro l
  induction l with
  | nil => intro m0 m _ _ x hx; rw [allL_nil] at hx; cases hx
  | cons x l ihl =>
   intro m0 m hB h
   rw [cntL_cons] at hB
   rw [fitsK_cons, Bool.and_eq_true] at h
   obtain ⟨h1, h2⟩ := h
   unfold fitsB at h1
   simp only [Bool.and_eq_true] at h1
   obtain ⟨⟨⟨hs, hk⟩, -⟩, hf⟩ := h1
   have k1 := ih x.kids _ _ (by omega) hf
   have k2 := ihl _ _ (by omega) h2
   intro y hy
   rw [allL_cons, List.mem_cons, List.mem_append] at hy
   rcases hy with rfl | hy | hy
   · unfold shapeB at hs
     refine ⟨fun h7 hn => ?_, fun h9 => ?_, fun h8 z hz => ?_, ?_, ?_, fun h11 => ?_⟩
     · simp [h7, bareB, hn] at hs
       omega
     · simp [h9, bareB] at hs
       omega
     · unfold kidsB at hk
       simp only [h8] at hk
       simp at hk
       cases hkk : y.kids with
       | nil => rw [hkk] at hz; cases hz
       | cons a t =>
        rw [hkk] at hk hz
        simp only [Bool.and_eq_true, List.all_eq_true] at hk
        obtain ⟨⟨e1, -⟩, e2⟩ := hk
        rcases List.mem_cons.1 hz with rfl | hz
        · simpa using e1
        have := e2 z hz
        unfold holed at this
        simp only [Bool.and_eq_true] at this
        simpa using this.1
     · by_cases h1 : y.kind < 1
       · exfalso
         rw [if_neg (by omega), if_neg (by omega), if_neg (by omega), if_neg (by omega), if_neg (by omega), if_neg (by omega), if_neg (by omega), if_neg (by omega), if_neg (by omega)] at hs
         simp only [Bool.and_eq_true] at hs
         have := hs.1
         simp at this
         omega
       omega
     · by_cases h1 : 11 < y.kind
       · exfalso
         rw [if_neg (by omega), if_neg (by omega), if_neg (by omega), if_neg (by omega), if_neg (by omega), if_neg (by omega), if_neg (by omega), if_neg (by omega), if_neg (by omega)] at hs
         simp only [Bool.and_eq_true] at hs
         have := hs.1
         simp at this
         omega
       omega
     simp [h11, bareB] at hs
     exact hs.1.2
   · exact k1 y hy
   exact k2 y hy
theorem check_ok {m : Mt} (h : checkM m = 0) : OkL m.body ∧ Lx.arityL m.name = (m.params.length : Int) := by
 unfold checkM at h
 by_cases h1 : headB m = false
 · rw [if_pos h1] at h; omega
 rw [if_neg h1] at h
 by_cases h2 : fitsK false false m.body = false
 · rw [if_pos h2] at h; omega
 refine ⟨fits_ok _ m.body false false (Nat.lt_succ_self _) (by simpa using h2), ?_⟩
 unfold headB at h1
 simp only [Bool.not_eq_false, Bool.and_eq_true] at h1
 simpa using h1.1.1.1.1.1
theorem find_mem {K : List Kn} {s : Bytes} {k : Kn} (h : findK K s = some k) : k ∈ K ∧ k.name = s := by
 unfold findK at h
 exact ⟨List.mem_of_find?_eq_some h, by simpa using List.find?_some h⟩
theorem declL_ok (F : List Bytes) (at_ : Int) : ∀ (l : List (Bytes × Nat)) (K : List Kn) (n : Nat) (K' : List Kn) (n' : Nat), declL F at_ l K n = .ok (K', n') → n' = n + l.length ∧ (n ≤ 60 → n' ≤ 60) ∧
  ∃ A, K' = K ++ A ∧ ∀ k ∈ A, n ≤ k.slot ∧ k.slot < n' ∧ ∃ q, l[k.slot - n]? = some q ∧ q.1 = k.name ∧ (k.set = true → q.2 = 0)
 | [], K, n, K', n', h => by
  cases h
  exact ⟨by simp, by omega, [], by simp, fun k hk => by cases hk⟩
 | (s, p) :: l, K, n, K', n', h => by
  unfold declL at h
  by_cases hE : declE F K n s p = 0
  · rw [if_neg (by simpa using hE)] at h
    obtain ⟨h1, h2, A, h3, h5⟩ := declL_ok F at_ l _ _ _ _ h
    have h60 : n < 60 := by
     unfold declE at hE
     by_cases h : 60 ≤ n ∨ 12 < p
     · rw [if_pos h] at hE; omega
     omega
    refine ⟨by rw [h1, List.length_cons]; omega, by omega, ⟨s, n, p == 0⟩ :: A, by rw [h3]; simp, fun k hk => ?_⟩
    rcases List.mem_cons.1 hk with rfl | hk
    · refine ⟨Nat.le_refl _, by show n < n'; omega, (s, p), by show ((s, p) :: l)[n - n]? = _; rw [Nat.sub_self]; rfl, rfl, fun h => by simpa using h⟩
    obtain ⟨g1, g2, q, g3, g4⟩ := h5 k hk
    refine ⟨by omega, g2, q, ?_, g4⟩
    have : k.slot - n = (k.slot - (n + 1)) + 1 := by omega
    rw [this]
    exact g3
  rw [if_pos hE] at h; cases h
def Has (K : List Kn) (n : Nat) (args : Nat) (has : List Bool) : Prop := ∀ k ∈ K, k.slot < n ∧ has.getD k.slot false = true ∧ (k.set = true → args ≤ k.slot)
theorem Has.mono {K : List Kn} {n n' args : Nat} {has : List Bool} (h : Has K n args has) (hn : n ≤ n') : Has K n' args has := fun k hk => ⟨by have := (h k hk).1; omega, (h k hk).2⟩
theorem allR_le : ∀ (B : Nat) (l : List Nd) (F G : List Bytes) (sup : Bool) (K : List Kn) (n : Nat) (is : List It) (n' : Nat), cntL l < B → allR F G sup l K n = .ok (is, n') → n ≤ n' ∧ (n ≤ 60 → n' ≤ 60)
 | 0, l, _, _, _, _, _, _, _, h, _ => by omega
 | B + 1, [], F, G, sup, K, n, is, n', _, h => by rw [allR_nil] at h; cases h; omega
 | B + 1, x :: l, F, G, sup, K, n, is, n', hB, h => by
  rw [cntL_cons] at hB
  rw [allR_cons] at h
  have ht := cnt_tail x.kids
  cases h1 : oneR F G sup x K n with
  | error E => rw [h1] at h; cases h
  | ok r =>
   obtain ⟨i, n1⟩ := r
   rw [h1] at h
   simp only at h
   have hone : n ≤ n1 ∧ (n ≤ 60 → n1 ≤ 60) := by
    have ks : ∀ (s : Bool) (l' : List Nd) (K' : List Kn) (m : Nat) (g : List It → It), cntL l' ≤ cntL x.kids → (match allR F G s l' K' m with | .error E => .error E | .ok (ks, n') => .ok (g ks, n') : RE (It × Nat)) = .ok (i, n1) → m ≤ n1 ∧ (m ≤ 60 → n1 ≤ 60) := by
     intro s l' K' m g hl hh
     cases h2 : allR F G s l' K' m with
     | error E => rw [h2] at hh; cases hh
     | ok r2 =>
      obtain ⟨ks, n2⟩ := r2
      rw [h2] at hh
      cases hh
      exact allR_le B l' F G s K' m ks _ (by omega) h2
    unfold oneR at h1
    split at h1
    · unfold varR at h1
      split at h1
      · cases h1; omega
      split at h1
      · cases h1; omega
      split at h1
      · cases h1; omega
      split at h1
      · cases h1
      cases h1; omega
    split at h1
    · split at h1
      · cases h1
      exact ks _ _ _ _ (fun ks => .mk _ [] 0 _ 0 ks) (Nat.le_refl _) h1
    split at h1
    · split at h1
      · cases h1
      split at h1
      · exact ks _ _ _ _ (fun ks => .mk 15 x.name 0 0 0 (leafI 8 0 :: ks)) ht h1
      exact ks _ _ _ _ (fun ks => .mk 14 x.name 0 0 0 ks) (Nat.le_refl _) h1
    split at h1
    · exact ks _ _ _ _ (fun ks => .mk 16 [] 0 0 0 ks) (Nat.le_refl _) h1
    split at h1
    · split at h1
      · cases h1
      rename_i K2 n2 hd
      have := ks _ _ _ _ (fun ks => .mk 17 [] x.num n x.names.length ks) (Nat.le_refl _) h1
      have h3 := declL_ok _ _ _ _ _ _ _ hd
      omega
    split at h1
    · exact ks _ _ _ _ (fun ks => .mk 18 [] 0 0 0 ks) (Nat.le_refl _) h1
    split at h1
    · exact ks _ _ _ _ (fun ks => .mk x.kind x.name x.num 0 0 ks) (Nat.le_refl _) h1
    cases h1; omega
   cases h3 : allR F G sup l K n1 with
   | error E => rw [h3] at h; cases h
   | ok r3 =>
    obtain ⟨is2, n2⟩ := r3
    rw [h3] at h
    cases h
    have := allR_le B l F G sup K n1 is2 _ (by omega) h3
    omega
end Rv
end Go.Proofs.YtmmgfifpjifjnaaGreatDoor
namespace Go.Proofs.YtmmgfifpjifjnaaGreatDoor
namespace Rv
open Tr
open Lx (Bytes)
theorem decl_ne {F : List Bytes} (a : Int) : ∀ (l : List (Bytes × Nat)) (K : List Kn) (n : Nat) (p e : Int), declL F a l K n = .error (p, e) → p = a ∧ e ≠ 0
 | [], K, n, p, e, h => by unfold declL at h; cases h
 | (s, q) :: l, K, n, p, e, h => by
  unfold declL at h
  by_cases he : declE F K n s q ≠ 0
  · rw [if_pos he] at h
    obtain ⟨rfl, rfl⟩ := Prod.mk.inj (Except.error.inj h)
    exact ⟨rfl, he⟩
  rw [if_neg he] at h
  exact decl_ne a l _ _ _ _ h
theorem all_ne : ∀ (B : Nat) (l : List Nd) (F G : List Bytes) (sup : Bool) (K : List Kn) (n : Nat) (p e : Int), cntL l < B → allR F G sup l K n = .error (p, e) → e ≠ 0 := by
 intro B
 induction B with
 | zero => intro l _ _ _ _ _ _ _ hB; omega
 | succ B ih =>
  intro l
  induction l with
  | nil => intro F G sup K n p e hB h; rw [allR_nil] at h; cases h
  | cons x l ihl =>
   intro F G sup K n p e hB h
   rw [cntL_cons] at hB
   rw [allR_cons] at h
   have hkt : cntL x.kids.tail < B := by have := cnt_tail x.kids; omega
   cases ho : oneR F G sup x K n with
   | ok y =>
    obtain ⟨i, n1⟩ := y
    rw [ho] at h
    simp only at h
    cases hl : allR F G sup l K n1 with
    | ok z => rw [hl] at h; cases h
    | error E =>
     rw [hl] at h
     obtain rfl := Except.error.inj h
     exact ihl F G sup K n1 p e (by omega) hl
   | error E =>
    rw [ho] at h
    obtain rfl := Except.error.inj h
    unfold oneR at ho
    split at ho
    · unfold varR at ho
      split at ho
      · cases ho
      split at ho
      · cases ho
      split at ho
      · cases ho
      split at ho
      · obtain ⟨-, rfl⟩ := Prod.mk.inj (Except.error.inj ho); decide
      cases ho
    split at ho
    · split at ho
      · obtain ⟨-, rfl⟩ := Prod.mk.inj (Except.error.inj ho); decide
      (split at ho <;> first | (rename_i hr; obtain rfl := Except.error.inj ho; exact ih _ F G _ _ _ p e (by first | exact hkt | omega) hr) | cases ho)
    split at ho
    · split at ho
      · obtain ⟨-, rfl⟩ := Prod.mk.inj (Except.error.inj ho); decide
      split at ho
      · (split at ho <;> first | (rename_i hr; obtain rfl := Except.error.inj ho; exact ih _ F G _ _ _ p e (by first | exact hkt | omega) hr) | cases ho)
      (split at ho <;> first | (rename_i hr; obtain rfl := Except.error.inj ho; exact ih _ F G _ _ _ p e (by first | exact hkt | omega) hr) | cases ho)
    split at ho
    · (split at ho <;> first | (rename_i hr; obtain rfl := Except.error.inj ho; exact ih _ F G _ _ _ p e (by first | exact hkt | omega) hr) | cases ho)
    split at ho
    · split at ho
      · rename_i E' hd
        obtain rfl := Except.error.inj ho
        exact (decl_ne _ _ _ _ _ _ hd).2
      (split at ho <;> first | (rename_i hr; obtain rfl := Except.error.inj ho; exact ih _ F G _ _ _ p e (by first | exact hkt | omega) hr) | cases ho)
    split at ho
    · (split at ho <;> first | (rename_i hr; obtain rfl := Except.error.inj ho; exact ih _ F G _ _ _ p e (by first | exact hkt | omega) hr) | cases ho)
    split at ho
    · (split at ho <;> first | (rename_i hr; obtain rfl := Except.error.inj ho; exact ih _ F G _ _ _ p e (by first | exact hkt | omega) hr) | cases ho)
    cases ho
theorem res_ne {F G : List Bytes} {m : Mt} {p e : Int} (h : resR F G m = .error (p, e)) : e ≠ 0 := by
 unfold resR at h
 split at h
 · rename_i hc
   obtain ⟨-, rfl⟩ := Prod.mk.inj (Except.error.inj h)
   exact hc
 split at h
 · rename_i E hd
   obtain rfl := Except.error.inj h
   exact (decl_ne _ _ _ _ _ _ hd).2
 split at h
 · rename_i E hd
   obtain rfl := Except.error.inj h
   exact all_ne _ _ _ _ _ _ _ _ _ (Nat.lt_succ_self _) hd
 cases h
end Rv
end Go.Proofs.YtmmgfifpjifjnaaGreatDoor
