/- ScopeRenames, the plain law: other names for the same variables. No program. · ScopeRenames, plain: names of a method that is right; a renamed method is mild. · How many items there are. Plain; no program. -/
import Derived.Test.YtmmgfifpjifjnaaGreatDoorRvA
import Derived.Test.YtmmgfifpjifjnaaGreatDoorTrA
set_option linter.unusedVariables false
namespace Go.Proofs.YtmmgfifpjifjnaaGreatDoor
namespace Rv
open Tr
open Lx (Bytes)
def zB (s : Bytes) : Bytes := 90 :: s
def rnS (K : List Bytes) (k : Int) (s : Bytes) : Bytes := if (k = 5 ∨ k = 6) ∧ s ∈ K then zB s else s
def rnL : List Bytes → List Nd → List Nd
 | _, [] => []
 | K, x :: l => .mk x.kind (rnS K x.kind x.name) x.num (rnL (if x.kind = 9 then K ++ x.names else K) x.kids) (if x.kind = 9 then x.names.map zB else x.names) x.at_ :: rnL K l
 termination_by _ l => SizeOf.sizeOf l
 decreasing_by all_goals (have := x.sz; simp; omega)
def rn1 (K : List Bytes) (x : Nd) : Nd := .mk x.kind (rnS K x.kind x.name) x.num (rnL (if x.kind = 9 then K ++ x.names else K) x.kids) (if x.kind = 9 then x.names.map zB else x.names) x.at_
theorem rnL_nil (K : List Bytes) : rnL K [] = [] := by unfold rnL; rfl
theorem rnL_cons (K : List Bytes) (x : Nd) (l : List Nd) : rnL K (x :: l) = rn1 K x :: rnL K l := by rw [rnL]; rfl
theorem rnL_map (K : List Bytes) (l : List Nd) : rnL K l = l.map (rn1 K) := by
 induction l with
 | nil => rw [rnL_nil]; rfl
 | cons x l ih => rw [rnL_cons, ih]; rfl
def rnM (m : Mt) : Mt := { m with params := m.params.map zB, temps := m.temps.map zB, body := rnL (m.params ++ m.temps) m.body }
def rnK (K : List Kn) : List Kn := K.map (fun k => ⟨zB k.name, k.slot, k.set⟩)
def Mod (s : Bytes) : Prop := s.length ≤ 60 ∧ s.head? ≠ some 90
def Nm (s : Bytes) : Prop := Mod s ∧ pseu s = 0 ∧ s ≠ supS
theorem pseu_z (s : Bytes) : pseu (zB s) = 0 := by unfold pseu zB; simp
theorem sup_z (s : Bytes) : zB s ≠ supS := by unfold zB supS; simp
theorem kwF_mem : ∀ (f : Nat) (r : Bytes), Lx.kwF f r ≠ 0 → 58 ∈ r
 | 0, r, h => absurd rfl h
 | f + 1, r, h => by
  unfold Lx.kwF at h
  by_cases h1 : Lx.nameL r = 0
  · rw [if_pos h1] at h; exact absurd rfl h
  rw [if_neg h1] at h
  by_cases h2 : Lx.colonB (r.drop (Lx.nameL r)) = true
  · unfold Lx.colonB Lx.hd at h2
    have h3 : (r.drop (Lx.nameL r)).getD 0 0 = 58 := by simpa using (Bool.and_eq_true_iff.1 h2).1
    have h4 : 58 ∈ r.drop (Lx.nameL r) := by
     cases e : r.drop (Lx.nameL r) with
     | nil => rw [e] at h3; exact absurd h3 (by decide)
     | cons c t => rw [e] at h3; have : c = 58 := h3; rw [this]; simp
    exact List.mem_of_mem_drop h4
  rw [if_neg h2] at h; exact absurd rfl h
theorem isName_z {s : Bytes} (h : isName s = true) (hl : s.length ≤ 60) : isName (zB s) = true := by
 unfold isName at h ⊢
 have h : Lx.arityL s = 0 := by simpa using h
 unfold Lx.arityL at h
 by_cases h0 : s = []
 · rw [if_pos h0] at h; cases h
 rw [if_neg h0] at h
 have hlen : 0 < s.length := List.length_pos_iff.2 h0
 rw [if_neg (by omega)] at h
 by_cases hk : Lx.kwL s = s.length
 · exfalso
   rw [if_pos hk] at h
   unfold Lx.kwL at hk
   have hm := kwF_mem _ s (by rw [hk]; omega)
   have hc : s.count 58 = 0 := by
    have h : ((Lib.countByte s 58 : Nat) : Int) = 0 := h
    unfold Lib.countByte at h
    omega
   exact absurd hm (List.count_eq_zero.1 hc)
 rw [if_neg hk] at h
 by_cases hn : Lx.nameL s = s.length
 · have ht : s.takeWhile Lx.alnum = s := by
    unfold Lx.nameL at hn
    by_cases hl : Lx.letter (Lx.hd s 0) = true
    · rw [if_pos hl] at hn
      exact List.IsPrefix.eq_of_length (List.takeWhile_prefix _) hn
    rw [if_neg hl] at hn; omega
   have hz : Lx.nameL (zB s) = (zB s).length := by
    unfold Lx.nameL zB
    have e1 : Lx.letter (Lx.hd (90 :: s) 0) = true := by show Lx.letter 90 = true; decide
    have e2 : Lx.alnum 90 = true := by decide
    rw [if_pos e1, List.takeWhile_cons_of_pos e2, ht]
   have hkz : Lx.kwL (zB s) = 0 := by
    unfold Lx.kwL Lx.kwF
    have e3 : (zB s).length ≠ 0 := by unfold zB; simp
    rw [hz, if_neg e3, List.drop_length]
    rfl
   have hzl : (zB s).length = s.length + 1 := rfl
   unfold Lx.arityL
   rw [if_neg (by unfold zB; simp), if_neg (by omega), if_neg (by rw [hkz]; omega), if_pos hz]
   rfl
 rw [if_neg hn] at h
 split at h <;> cases h
section
variable {K : List Bytes} {x : Nd}
theorem rn_kind (K : List Bytes) (x : Nd) : (rn1 K x).kind = x.kind := rfl
theorem rn_num (K : List Bytes) (x : Nd) : (rn1 K x).num = x.num := rfl
theorem rn_at (K : List Bytes) (x : Nd) : (rn1 K x).at_ = x.at_ := rfl
theorem rn_name (K : List Bytes) (x : Nd) : (rn1 K x).name = rnS K x.kind x.name := rfl
theorem rn_kids (K : List Bytes) (x : Nd) : (rn1 K x).kids = rnL (if x.kind = 9 then K ++ x.names else K) x.kids := rfl
theorem rn_names (K : List Bytes) (x : Nd) : (rn1 K x).names = if x.kind = 9 then x.names.map zB else x.names := rfl
theorem rn_len (K : List Bytes) (l : List Nd) : (rnL K l).length = l.length := by rw [rnL_map, List.length_map]
theorem rnS_out {k : Int} {s : Bytes} (h : ¬ (k = 5 ∨ k = 6)) : rnS K k s = s := if_neg (fun e => h e.1)
theorem rnS_not {k : Int} {s : Bytes} (h : s ∉ K) : rnS K k s = s := if_neg (fun e => h e.2)
end
theorem holed_rn (K : List Bytes) (x : Nd) : holed (rn1 K x) = holed x := by
 unfold holed
 rw [rn_kind, rn_kids]
 cases e : x.kids with
 | nil => rw [rnL_nil]
 | cons y l => rw [rnL_cons]; rfl
theorem valB_rn (K : List Bytes) (x : Nd) : valB (rn1 K x) = valB x := rfl
theorem bodyB_rn (K : List Bytes) : ∀ l : List Nd, bodyB (rnL K l) = bodyB l
 | [] => by rw [rnL_nil]
 | x :: l => by
  rw [rnL_cons]
  unfold bodyB
  rw [bodyB_rn K l, rn_kind]
  have e : (rnL K l).isEmpty = l.isEmpty := by
   cases l with
   | nil => rw [rnL_nil]
   | cons y l => rw [rnL_cons]; rfl
  rw [e]
theorem all_rn (K : List Bytes) (p : Nd → Bool) (hp : ∀ x, p (rn1 K x) = p x) (l : List Nd) : (rnL K l).all p = l.all p := by
 rw [rnL_map, List.all_map]
 congr 1
 funext x
 exact hp x
theorem litB_rn {K : List Bytes} (hK : ∀ s ∈ K, Nm s) {x : Nd} (h : litB x = true) : litB (rn1 K x) = true := by
 unfold litB at h ⊢
 rw [rn_kind, rn_name]
 by_cases h5 : x.kind = 5
 · rw [if_pos h5] at h ⊢
   have hn : x.name ∉ K := fun hm => by
    have := (hK _ hm).2.1
    simp only [Bool.or_eq_true, beq_iff_eq] at h
    rcases h with (h | h) | h <;> (rw [h] at this; revert this; decide)
   rw [rnS_not hn]
   exact h
 rw [if_neg h5] at h ⊢
 exact h
theorem all_lit {K : List Bytes} (hK : ∀ s ∈ K, Nm s) {l : List Nd} (h : l.all litB = true) : (rnL K l).all litB = true := by
 rw [rnL_map, List.all_map]
 rw [List.all_eq_true] at h ⊢
 intro x hx
 exact litB_rn hK (h x hx)
theorem bare_rn {K : List Bytes} {x : Nd} {a b c : Bool} {k : Int} (h : bareB x a b k c = true) (ha : ¬ (x.kind = 5 ∨ x.kind = 6) ∨ a = true) (hc : x.kind ≠ 9 ∨ c = true) : bareB (rn1 K x) a b k c = true := by
 unfold bareB at h ⊢
 rw [rn_name, rn_num, rn_kids, rn_len, rn_names]
 have e1 : (a || rnS K x.kind x.name == []) = (a || x.name == []) := by
  rcases ha with ha | ha
  · rw [rnS_out ha]
  rw [ha]; rfl
 have e2 : (c || (((if x.kind = 9 then x.names.map zB else x.names).length : Nat) : Int) == 0) = (c || (x.names.length : Int) == 0) := by
  rcases hc with hc | hc
  · rw [if_neg hc]
  rw [hc]; rfl
 rw [e1, e2]
 exact h
theorem isName_rn {K : List Bytes} (hK : ∀ s ∈ K, Nm s) {k : Int} {s : Bytes} (h : isName s = true) : isName (rnS K k s) = true := by
 unfold rnS
 split
 · rename_i hs
   exact isName_z h (hK _ hs.2).1.1
 exact h
theorem shape_rn {K : List Bytes} (hK : ∀ s ∈ K, Nm s) {x : Nd} (hN : ∀ s ∈ x.names, Mod s) (h : shapeB x = true) : shapeB (rn1 K x) = true := by
 unfold shapeB at h ⊢
 rw [rn_kind]
 by_cases h1 : x.kind = 1
 · rw [if_pos h1] at h ⊢
   exact bare_rn h (.inl (by omega)) (.inl (by omega))
 rw [if_neg h1] at h ⊢
 by_cases h2 : x.kind = 2 ∨ x.kind = 3
 · rw [if_pos h2] at h ⊢
   exact bare_rn h (.inr rfl) (.inl (by omega))
 rw [if_neg h2] at h ⊢
 by_cases h4 : x.kind = 4
 · rw [if_pos h4] at h ⊢
   exact bare_rn h (.inl (by omega)) (.inl (by omega))
 rw [if_neg h4] at h ⊢
 by_cases h5 : x.kind = 5
 · rw [if_pos h5] at h ⊢
   obtain ⟨ha, hb⟩ := Bool.and_eq_true_iff.1 h
   exact Bool.and_eq_true_iff.2 ⟨bare_rn ha (.inr rfl) (.inl (by omega)), isName_rn hK hb⟩
 rw [if_neg h5] at h ⊢
 by_cases h6 : x.kind = 6
 · rw [if_pos h6] at h ⊢
   obtain ⟨ha, hb⟩ := Bool.and_eq_true_iff.1 h
   exact Bool.and_eq_true_iff.2 ⟨bare_rn ha (.inr rfl) (.inl (by omega)), isName_rn hK hb⟩
 rw [if_neg h6] at h ⊢
 by_cases h7 : x.kind = 7
 · rw [if_pos h7] at h ⊢
   obtain ⟨ha, hb⟩ := Bool.and_eq_true_iff.1 h
   rw [rn_name, rnS_out (by omega)]
   exact Bool.and_eq_true_iff.2 ⟨bare_rn ha (.inr rfl) (.inl (by omega)), hb⟩
 rw [if_neg h7] at h ⊢
 by_cases h8 : x.kind = 8
 · rw [if_pos h8] at h ⊢
   obtain ⟨ha, hb⟩ := Bool.and_eq_true_iff.1 h
   refine Bool.and_eq_true_iff.2 ⟨bare_rn ha (.inl (by omega)) (.inl (by omega)), ?_⟩
   have hl2 : (rn1 K x).kids.length = x.kids.length := by rw [rn_kids, rn_len]
   rw [hl2]; exact hb
 rw [if_neg h8] at h ⊢
 by_cases h9 : x.kind = 9
 · rw [if_pos h9] at h ⊢
   rw [rn_names, if_pos h9, rn_num, List.length_map, List.all_map]
   obtain ⟨ha, hb⟩ := Bool.and_eq_true_iff.1 h
   refine Bool.and_eq_true_iff.2 ⟨?_, ?_⟩
   · obtain ⟨ha, hc⟩ := Bool.and_eq_true_iff.1 ha
     obtain ⟨ha, hd⟩ := Bool.and_eq_true_iff.1 ha
     exact Bool.and_eq_true_iff.2 ⟨Bool.and_eq_true_iff.2 ⟨bare_rn ha (.inl (by omega)) (.inr rfl), hd⟩, hc⟩
   rw [List.all_eq_true] at hb ⊢
   intro s hs
   exact isName_z (hb s hs) (hN s hs).1
 rw [if_neg h9] at h ⊢
 by_cases h10 : x.kind = 10
 · rw [if_pos h10] at h ⊢
   exact bare_rn h (.inl (by omega)) (.inl (by omega))
 rw [if_neg h10] at h ⊢
 obtain ⟨ha, hb⟩ := Bool.and_eq_true_iff.1 h
 exact Bool.and_eq_true_iff.2 ⟨ha, bare_rn hb (.inl (by omega)) (.inl (by omega))⟩
theorem kidsB_rn {K : List Bytes} (hK : ∀ s ∈ K, Nm s) {x : Nd} (h : kidsB x = true) : kidsB (rn1 K x) = true := by
 unfold kidsB at h ⊢
 rw [rn_kind, rn_kids]
 by_cases h4 : x.kind = 4
 · rw [if_pos h4] at h ⊢
   rw [if_neg (by omega)]
   exact all_lit hK h
 rw [if_neg h4] at h ⊢
 by_cases h9 : x.kind = 9
 · rw [if_pos h9] at h ⊢
   rw [bodyB_rn]; exact h
 rw [if_neg h9] at h ⊢
 rw [if_neg h9]
 by_cases h8 : x.kind = 8
 · rw [if_pos h8] at h ⊢
   cases e : x.kids with
   | nil => rw [e] at h; cases h
   | cons y l =>
    rw [e] at h
    rw [rnL_cons]
    show (_ && !holed (rn1 K y) && (rnL K l).all holed) = true
    rw [holed_rn, all_rn K holed (holed_rn K)]
    exact h
 rw [if_neg h8] at h ⊢
 by_cases h7 : x.kind = 7
 · rw [if_pos h7] at h ⊢
   cases e : x.kids with
   | nil => rw [e] at h; cases h
   | cons y l =>
    rw [e] at h
    rw [rnL_cons]
    show ((rnL K l).all valB && _) = true
    rw [all_rn K valB (valB_rn K)]
    exact h
 rw [if_neg h7] at h ⊢
 rw [all_rn K valB (valB_rn K)]
 exact h
theorem bigB_rn (K : List Bytes) (x : Nd) : bigB (rn1 K x) = bigB x := by
 unfold bigB
 rw [rn_kind, rn_name]
 by_cases h : x.kind = 5 ∨ x.kind = 6
 · have e2 : (x.kind == 2) = false := by simp; omega
   have e3 : (x.kind == 3) = false := by simp; omega
   rw [e2, e3]; rfl
 rw [rnS_out h]
theorem any_rn (p : Nd → Bool) (hp : ∀ K x, p (rn1 K x) = p x) (l : List Nd) : ∀ K, (allL (rnL K l)).any p = (allL l).any p := by
 refine Nd.ind (P := fun l => ∀ K, (allL (rnL K l)).any p = (allL l).any p) ?_ ?_ l
 · intro K; rw [rnL_nil]
 intro x l h1 h2 K
 rw [rnL_cons, allL_cons, allL_cons, List.any_cons, List.any_cons, List.any_append, List.any_append, hp, rn_kids, h1, h2]
theorem depth_rn (l : List Nd) : ∀ K, depthL (rnL K l) = depthL l := by
 refine Nd.ind (P := fun l => ∀ K, depthL (rnL K l) = depthL l) ?_ ?_ l
 · intro K; rw [rnL_nil]
 intro x l h1 h2 K
 rw [rnL_cons, depthL_cons, depthL_cons, rn_kids, h1, h2]
theorem cnt_rn (l : List Nd) : ∀ K, cntL (rnL K l) = cntL l := by
 refine Nd.ind (P := fun l => ∀ K, cntL (rnL K l) = cntL l) ?_ ?_ l
 · intro K; rw [rnL_nil]
 intro x l h1 h2 K
 rw [rnL_cons, cntL_cons, cntL_cons, rn_kids, h1, h2]
theorem sized_rn (K : List Bytes) (l : List Nd) : sizedL (rnL K l) = sizedL l := by
 unfold sizedL
 rw [any_rn bigB bigB_rn, any_rn overB (fun _ _ => rfl), depth_rn]
theorem fieldF_mem : ∀ {F : List Bytes} {s : Bytes}, 0 ≤ fieldF F s → s ∈ F
 | [], s, h => by unfold fieldF at h; omega
 | x :: l, s, h => by
  unfold fieldF at h
  by_cases h0 : 0 ≤ fieldF l s
  · exact List.mem_cons_of_mem _ (fieldF_mem h0)
  rw [if_neg h0] at h
  by_cases h1 : x = s
  · rw [h1]; exact List.mem_cons_self
  rw [if_neg h1] at h; omega
theorem find_z (K : List Kn) (s : Bytes) : findK (rnK K) (zB s) = (findK K s).map (fun k => ⟨zB k.name, k.slot, k.set⟩) := by
 unfold findK rnK
 rw [List.find?_map]
 congr 1
theorem find_no {K : List Kn} {s : Bytes} (h : s.head? ≠ some 90) : findK (rnK K) s = none := by
 unfold findK rnK
 rw [List.find?_eq_none]
 intro k hk
 obtain ⟨k', -, rfl⟩ := List.mem_map.1 hk
 intro e
 have e : zB k'.name = s := by simpa using e
 exact h (by rw [← e]; rfl)
theorem find_names {K : List Kn} {s : Bytes} : s ∈ K.map (·.name) ↔ ∃ k, findK K s = some k := by
 constructor
 · intro h
   obtain ⟨k, hk, rfl⟩ := List.mem_map.1 h
   cases e : findK K k.name with
   | some k => exact ⟨k, rfl⟩
   | none =>
    unfold findK at e
    have := List.find?_eq_none.1 e k hk
    exact absurd (beq_self_eq_true _) this
 rintro ⟨k, hk⟩
 obtain ⟨h1, h2⟩ := find_mem hk
 exact List.mem_map.2 ⟨k, h1, h2⟩
def zP (q : Bytes × Nat) : Bytes × Nat := (zB q.1, q.2)
theorem decl_ren {F : List Bytes} (a : Int) (hF : ∀ s ∈ F, s.head? ≠ some 90) : ∀ (l : List (Bytes × Nat)) (K : List Kn) (n : Nat) (K' : List Kn) (n' : Nat), (∀ q ∈ l, Mod q.1) → (∀ s ∈ K.map (·.name), Nm s) → declL F a l K n = .ok (K', n') →
  declL F a (l.map zP) (rnK K) n = .ok (rnK K', n') ∧ K'.map (·.name) = K.map (·.name) ++ l.map (·.1) ∧ ∀ s ∈ K'.map (·.name), Nm s
 | [], K, n, K', n', hl, hK, h => by
  unfold declL at h
  obtain ⟨rfl, rfl⟩ := Prod.mk.inj (Except.ok.inj h)
  exact ⟨by unfold declL; rfl, by simp, hK⟩
 | (s, p) :: l, K, n, K', n', hl, hK, h => by
  unfold declL at h
  by_cases he : declE F K n s p ≠ 0
  · rw [if_pos he] at h; cases h
  rw [if_neg he] at h
  have he0 : declE F K n s p = 0 := by simpa using he
  unfold declE at he0
  by_cases h1 : 60 ≤ n ∨ 12 < p
  · rw [if_pos h1] at he0; cases he0
  rw [if_neg h1] at he0
  by_cases h2 : (findK K s).isSome ∨ 0 ≤ fieldF F s
  · rw [if_pos h2] at he0; cases he0
  rw [if_neg h2] at he0
  by_cases h3 : pseu s ≠ 0 ∨ s = supS
  · rw [if_pos h3] at he0; cases he0
  have hs : Nm s := ⟨hl (s, p) List.mem_cons_self, by simpa using fun e => h3 (.inl e), fun e => h3 (.inr e)⟩
  have ez : declE F (rnK K) n (zB s) p = 0 := by
   unfold declE
   rw [if_neg h1, find_z, Option.isSome_map, if_neg (fun e => by
    rcases e with e | e
    · exact h2 (.inl e)
    · exact hF _ (fieldF_mem e) rfl), if_neg (fun e => by
    rcases e with e | e
    · exact e (pseu_z s)
    exact sup_z s e)]
  have hK2 : ∀ t ∈ (K ++ [(⟨s, n, p == 0⟩ : Kn)]).map (·.name), Nm t := fun t ht => by
   rw [List.map_append] at ht
   rcases List.mem_append.1 ht with ht | ht
   · exact hK t ht
   have : t = s := by simpa using ht
   rw [this]; exact hs
  obtain ⟨r1, r2, r3⟩ := decl_ren a hF l _ _ _ _ (fun q hq => hl q (List.mem_cons_of_mem _ hq)) hK2 h
  refine ⟨?_, ?_, r3⟩
  · rw [List.map_cons]
    show declL F a ((zB s, p) :: l.map zP) (rnK K) n = _
    unfold declL
    rw [if_neg (by rw [ez]; simp)]
    have e : rnK (K ++ [(⟨s, n, p == 0⟩ : Kn)]) = rnK K ++ [⟨zB s, n, p == 0⟩] := by unfold rnK; simp
    rw [e] at r1
    exact r1
  rw [r2]; simp
theorem parN_z : ∀ (i : Nat) (l : List Bytes), parN i (l.map zB) = (parN i l).map zP
 | _, [] => rfl
 | i, s :: l => by show (zB s, i + 1) :: parN (i + 1) (l.map zB) = (zB s, i + 1) :: _; rw [parN_z (i + 1) l]
theorem parN_fst : ∀ (i : Nat) (l : List Bytes), (parN i l).map (·.1) = l
 | _, [] => rfl
 | i, s :: l => by show s :: (parN (i + 1) l).map (·.1) = s :: l; rw [parN_fst (i + 1) l]
theorem varN_z (l : List Bytes) : varN (l.map zB) = (varN l).map zP := by
 unfold varN
 rw [List.map_map, List.map_map]; rfl
theorem varN_fst (l : List Bytes) : (varN l).map (·.1) = l := by
 unfold varN
 rw [List.map_map]
 exact List.map_id l
theorem ren_all {F G : List Bytes} (hF : ∀ s ∈ F, s.head? ≠ some 90) (hG : ∀ s ∈ G, s.head? ≠ some 90) : ∀ (B : Nat) (l : List Nd) (sup : Bool) (K : List Kn) (n : Nat) (is : List It) (n' : Nat) (m0 mm : Bool), cntL l < B → (∀ x ∈ allL l, ∀ s ∈ x.names, Mod s) → (∀ s ∈ K.map (·.name), Nm s) → allR F G sup l K n = .ok (is, n') → fitsK m0 mm l = true →
  fitsK m0 mm (rnL (K.map (·.name)) l) = true ∧ allR F G sup (rnL (K.map (·.name)) l) (rnK K) n = .ok (is, n') := by
 intro B
 induction B with
 | zero => intro l _ _ _ _ _ _ _ hB; omega
 | succ B ih =>
  intro l
  induction l with
  | nil =>
   intro sup K n is n' m0 mm hB hN hK h hf
   rw [rnL_nil]
   exact ⟨fitsK_nil _ _, by rw [allR_nil] at h ⊢; exact h⟩
  | cons x l ihl =>
   intro sup K n is n' m0 mm hB hN hK h hf
   rw [cntL_cons] at hB
   rw [allL_cons] at hN
   rw [fitsK_cons] at hf
   obtain ⟨hf1, hf2⟩ := Bool.and_eq_true_iff.1 hf
   rw [allR_cons] at h
   have hNx := hN x List.mem_cons_self
   have hNk : ∀ y ∈ allL x.kids, ∀ s ∈ y.names, Mod s := fun y hy => hN y (List.mem_cons_of_mem _ (List.mem_append_left _ hy))
   have hNl : ∀ y ∈ allL l, ∀ s ∈ y.names, Mod s := fun y hy => hN y (List.mem_cons_of_mem _ (List.mem_append_right _ hy))
   unfold fitsB at hf1
   obtain ⟨hf1, hfk⟩ := Bool.and_eq_true_iff.1 hf1
   obtain ⟨hf1, hh⟩ := Bool.and_eq_true_iff.1 hf1
   obtain ⟨hsh, hkb⟩ := Bool.and_eq_true_iff.1 hf1
   obtain ⟨i, n1, ho, is', hl, rfl⟩ : ∃ i n1, oneR F G sup x K n = .ok (i, n1) ∧ ∃ is', allR F G sup l K n1 = .ok (is', n') ∧ i :: is' = is := by
    cases ho : oneR F G sup x K n with
    | error E => rw [ho] at h; cases h
    | ok y =>
     obtain ⟨i, n1⟩ := y
     rw [ho] at h
     simp only at h
     cases hl : allR F G sup l K n1 with
     | error E => rw [hl] at h; cases h
     | ok z =>
      obtain ⟨is', n2⟩ := z
      rw [hl] at h
      obtain ⟨e1, e2⟩ := Prod.mk.inj (Except.ok.inj h)
      exact ⟨i, n1, rfl, is', by rw [hl, e2], e1⟩
   obtain ⟨r1, r2⟩ := ihl sup K n1 is' n' mm mm (by omega) hNl hK hl hf2
   -- the node itself
   have key : fitsK false (x.kind == 8) (rn1 (K.map (·.name)) x).kids = true ∧ oneR F G sup (rn1 (K.map (·.name)) x) (rnK K) n = .ok (i, n1) := by
    have hcK : cntL x.kids < B := by omega
    have hS := shape_rn hK hNx hsh
    unfold oneR at ho ⊢
    rw [rn_kind, rn_kids, rn_name, rn_num, rn_names, rn_at]
    by_cases h5 : x.kind = 5
    · rw [if_pos h5] at ho ⊢
      rw [if_neg (show ¬ x.kind = 9 by omega)]
      have hk0 : x.kids = [] := by
       unfold shapeB at hsh
       rw [if_neg (by omega), if_neg (by omega), if_neg (by omega), if_pos h5] at hsh
       unfold bareB at hsh
       simp only [Bool.and_eq_true] at hsh
       have := hsh.1.1.2
       simpa using this
      refine ⟨by rw [hk0, rnL_nil]; exact fitsK_nil _ _, ?_⟩
      unfold varR at ho ⊢
      by_cases hm : x.name ∈ K.map (·.name)
      · obtain ⟨k, hk⟩ := find_names.1 hm
        have hn := hK _ hm
        rw [if_neg (by rw [hn.2.1]; simp), hk] at ho
        have e : rnS (K.map (·.name)) x.kind x.name = zB x.name := if_pos ⟨.inl h5, hm⟩
        rw [e, if_neg (by rw [pseu_z]; simp), find_z, hk]
        exact ho
      rw [rnS_not hm]
      by_cases hp : pseu x.name ≠ 0
      · rw [if_pos hp] at ho ⊢; exact ho
      rw [if_neg hp] at ho ⊢
      have hnf : findK K x.name = none := by
       cases e : findK K x.name with
       | none => rfl
       | some k => exact absurd (find_names.2 ⟨k, e⟩) hm
      rw [hnf] at ho
      simp only at ho
      have hh90 : x.name.head? ≠ some 90 := by
       by_cases hfd : 0 ≤ fieldF F x.name
       · exact hF _ (fieldF_mem hfd)
       rw [if_neg hfd] at ho
       by_cases hg : x.name = supS ∨ x.name ∉ G
       · rw [if_pos hg] at ho; cases ho
       exact hG _ (Classical.byContradiction fun e => hg (.inr e))
      rw [find_no hh90]
      exact ho
    rw [if_neg h5] at ho ⊢
    by_cases h6 : x.kind = 6
    · rw [if_pos h6] at ho ⊢
      rw [if_neg (show ¬ x.kind = 9 by omega)]
      have ha : asgR F (rnK K) (rnS (K.map (·.name)) x.kind x.name) = asgR F K x.name := by
       unfold asgR at ho ⊢
       by_cases hm : x.name ∈ K.map (·.name)
       · obtain ⟨k, hk⟩ := find_names.1 hm
         have hn := hK _ hm
         have e : rnS (K.map (·.name)) x.kind x.name = zB x.name := if_pos ⟨.inr h6, hm⟩
         have c1 : ¬ (pseu (zB x.name) ≠ 0 ∨ zB x.name = supS) := fun e => by
          rcases e with e | e
          · exact e (pseu_z _)
          exact sup_z _ e
         have c2 : ¬ (pseu x.name ≠ 0 ∨ x.name = supS) := fun e => by
          rcases e with e | e
          · exact e hn.2.1
          exact hn.2.2 e
         rw [e, if_neg c1, if_neg c2, find_z, hk]
         rfl
       rw [rnS_not hm]
       by_cases hp : pseu x.name ≠ 0 ∨ x.name = supS
       · rw [if_pos hp, if_pos hp]
       rw [if_neg hp] at ho ⊢
       rw [if_neg hp]
       have hnf : findK K x.name = none := by
        cases e : findK K x.name with
        | none => rfl
        | some k => exact absurd (find_names.2 ⟨k, e⟩) hm
       rw [hnf] at ho ⊢
       simp only at ho ⊢
       by_cases hfd : 0 ≤ fieldF F x.name
       · rw [find_no (hF _ (fieldF_mem hfd))]
       rw [if_neg hfd] at ho; cases ho
      rw [ha]
      cases he : asgR F K x.name with
      | none => rw [he] at ho; cases ho
      | some q =>
       obtain ⟨k, s⟩ := q
       rw [he] at ho
       simp only at ho ⊢
       cases hr : allR F G true x.kids K n with
       | error E => rw [hr] at ho; cases ho
       | ok z =>
        obtain ⟨ks, n2⟩ := z
        obtain ⟨q1, q2⟩ := ih x.kids true K n ks n2 _ _ hcK hNk hK hr hfk
        rw [hr] at ho
        rw [q2]
        exact ⟨q1, ho⟩
    rw [if_neg h6] at ho ⊢
    by_cases h7 : x.kind = 7
    · rw [if_pos h7] at ho ⊢
      rw [if_neg (show ¬ x.kind = 9 by omega), rn_len, rnS_out (by omega)]
      by_cases hlen : 13 < x.kids.length
      · rw [if_pos hlen] at ho; cases ho
      rw [if_neg hlen] at ho ⊢
      have hsb : superB (rn1 (K.map (·.name)) x) = superB x := by
       unfold superB
       rw [rn_kids, if_neg (show ¬ x.kind = 9 by omega)]
       cases e : x.kids with
       | nil => rw [rnL_nil]
       | cons y t =>
        rw [rnL_cons]
        show ((rn1 _ y).kind == 5 && (rn1 _ y).name == supS) = (y.kind == 5 && y.name == supS)
        rw [rn_kind, rn_name]
        by_cases hm : (y.kind = 5 ∨ y.kind = 6) ∧ y.name ∈ K.map (·.name)
        · have e1 : rnS (K.map (·.name)) y.kind y.name = zB y.name := if_pos hm
          have e2 : (zB y.name == supS) = false := by rw [beq_eq_false_iff_ne]; exact sup_z _
          have e3 : (y.name == supS) = false := by rw [beq_eq_false_iff_ne]; exact (hK _ hm.2).2.2
          rw [e1, e2, e3]
        have e1 : rnS (K.map (·.name)) y.kind y.name = y.name := if_neg hm
        rw [e1]
      rw [hsb]
      by_cases hs : (sup && superB x) = true
      · rw [if_pos hs] at ho ⊢
        cases e : x.kids with
        | nil =>
         obtain ⟨-, hs2⟩ := Bool.and_eq_true_iff.1 hs
         unfold superB at hs2
         rw [e] at hs2; cases hs2
        | cons y t =>
         obtain ⟨-, hs2⟩ := Bool.and_eq_true_iff.1 hs
         unfold superB at hs2
         rw [e] at hs2 ho hfk hcK hNk
         obtain ⟨hy5, hys⟩ := Bool.and_eq_true_iff.1 hs2
         have hy5 : y.kind = 5 := by simpa using hy5
         have hys : y.name = supS := by simpa using hys
         rw [cntL_cons] at hcK
         rw [allL_cons] at hNk
         rw [List.tail_cons] at ho
         rw [fitsK_cons] at hfk
         obtain ⟨hfy, hft⟩ := Bool.and_eq_true_iff.1 hfk
         cases hr : allR F G true t K n with
         | error E => rw [hr] at ho; cases ho
         | ok z =>
          obtain ⟨ks, n2⟩ := z
          obtain ⟨q1, q2⟩ := ih t true K n ks n2 _ _ (by omega) (fun z hz => hNk z (List.mem_cons_of_mem _ (List.mem_append_right _ hz))) hK hr hft
          rw [hr] at ho
          rw [rnL_cons, List.tail_cons, q2, fitsK_cons, q1]
          refine ⟨?_, ho⟩
          rw [Bool.and_true]
          have hn : y.name ∉ K.map (·.name) := fun hm => (hK _ hm).2.2 hys
          have hyk : y.kids = [] := by
           have h1 : shapeB y = true := by
            unfold fitsB at hfy
            simp only [Bool.and_eq_true] at hfy
            exact hfy.1.1.1
           unfold shapeB at h1
           rw [if_neg (by omega), if_neg (by omega), if_neg (by omega), if_pos hy5] at h1
           unfold bareB at h1
           simp only [Bool.and_eq_true] at h1
           have := h1.1.1.2
           simpa using this
          have e2 : rn1 (K.map (·.name)) y = y := by
           unfold rn1
           rw [rnS_not hn, hyk, rnL_nil, if_neg (show ¬ y.kind = 9 by omega), ← hyk]
           cases y; rfl
          rw [e2]; exact hfy
      rw [if_neg hs] at ho ⊢
      cases hr : allR F G true x.kids K n with
      | error E => rw [hr] at ho; cases ho
      | ok z =>
       obtain ⟨ks, n2⟩ := z
       obtain ⟨q1, q2⟩ := ih x.kids true K n ks n2 _ _ hcK hNk hK hr hfk
       rw [hr] at ho
       rw [q2]
       exact ⟨q1, ho⟩
    rw [if_neg h7] at ho ⊢
    rw [rnS_out (by omega)]
    by_cases h8 : x.kind = 8
    · rw [if_pos h8] at ho ⊢
      rw [if_neg (show ¬ x.kind = 9 by omega)]
      cases hr : allR F G false x.kids K n with
      | error E => rw [hr] at ho; cases ho
      | ok z =>
       obtain ⟨ks, n2⟩ := z
       obtain ⟨q1, q2⟩ := ih x.kids false K n ks n2 _ _ hcK hNk hK hr hfk
       rw [hr] at ho
       rw [q2]
       exact ⟨q1, ho⟩
    rw [if_neg h8] at ho ⊢
    by_cases h9 : x.kind = 9
    · rw [if_pos h9] at ho ⊢
      rw [if_pos h9, if_pos h9]
      cases hd : declL F x.at_ (parN 0 (x.names.take x.num.toNat) ++ varN (x.names.drop x.num.toNat)) K n with
      | error E => rw [hd] at ho; cases ho
      | ok z =>
       obtain ⟨K', n2⟩ := z
       rw [hd] at ho
       simp only at ho
       have hmod : ∀ q ∈ parN 0 (x.names.take x.num.toNat) ++ varN (x.names.drop x.num.toNat), Mod q.1 := fun q hq => by
        have : q.1 ∈ (parN 0 (x.names.take x.num.toNat) ++ varN (x.names.drop x.num.toNat)).map (·.1) := List.mem_map.2 ⟨q, hq, rfl⟩
        rw [List.map_append, parN_fst, varN_fst, List.take_append_drop] at this
        exact hNx _ this
       obtain ⟨d1, d2, d3⟩ := decl_ren x.at_ hF _ K n K' n2 hmod hK hd
       rw [List.map_append, ← parN_z, ← varN_z, List.map_take, List.map_drop] at d1
       rw [d1]
       simp only
       rw [List.map_append, parN_fst, varN_fst, List.take_append_drop] at d2
       rw [← d2, List.length_map]
       cases hr : allR F G true x.kids K' n2 with
       | error E => rw [hr] at ho; cases ho
       | ok z =>
        obtain ⟨ks, n3⟩ := z
        obtain ⟨q1, q2⟩ := ih x.kids true K' n2 ks n3 _ _ hcK hNk d3 hr hfk
        rw [hr] at ho
        rw [q2]
        exact ⟨q1, ho⟩
    rw [if_neg h9] at ho ⊢
    rw [if_neg h9]
    by_cases h10 : x.kind = 10
    · rw [if_pos h10] at ho ⊢
      cases hr : allR F G true x.kids K n with
      | error E => rw [hr] at ho; cases ho
      | ok z =>
       obtain ⟨ks, n2⟩ := z
       obtain ⟨q1, q2⟩ := ih x.kids true K n ks n2 _ _ hcK hNk hK hr hfk
       rw [hr] at ho
       rw [q2]
       exact ⟨q1, ho⟩
    rw [if_neg h10] at ho ⊢
    by_cases h14 : 1 ≤ x.kind ∧ x.kind ≤ 4
    · rw [if_pos h14] at ho ⊢
      cases hr : allR F G true x.kids K n with
      | error E => rw [hr] at ho; cases ho
      | ok z =>
       obtain ⟨ks, n2⟩ := z
       obtain ⟨q1, q2⟩ := ih x.kids true K n ks n2 _ _ hcK hNk hK hr hfk
       rw [hr] at ho
       rw [q2]
       exact ⟨q1, ho⟩
    rw [if_neg h14] at ho ⊢
    refine ⟨?_, ho⟩
    have hk0 : x.kids = [] := by
     unfold shapeB at hsh
     rw [if_neg (by omega), if_neg (by omega), if_neg (by omega), if_neg h5, if_neg h6, if_neg h7, if_neg h8, if_neg h9, if_neg h10] at hsh
     unfold bareB at hsh
     simp only [Bool.and_eq_true] at hsh
     have := hsh.2.1.2
     simpa using this
    rw [hk0, rnL_nil]; exact fitsK_nil _ _
   obtain ⟨k1, k2⟩ := key
   rw [rnL_cons, fitsK_cons, allR_cons, k2]
   simp only
   rw [r2, r1]
   refine ⟨?_, rfl⟩
   rw [Bool.and_true]
   unfold fitsB
   rw [shape_rn hK hNx hsh, kidsB_rn hK hkb, holed_rn, rn_kind, k1, hh]
   rfl
theorem ren_law {F G : List Bytes} {m : Mt} {c : Cd} (hF : ∀ s ∈ F, s.head? ≠ some 90) (hG : ∀ s ∈ G, s.head? ≠ some 90) (hP : ∀ s ∈ m.params ++ m.temps, Mod s) (hN : ∀ x ∈ allL m.body, ∀ s ∈ x.names, Mod s) (h : resR F G m = .ok c) : resR F G (rnM m) = .ok c := by
 unfold resR at h ⊢
 by_cases hc : checkM m ≠ 0
 · rw [if_pos hc] at h; cases h
 rw [if_neg hc] at h
 have hc : checkM m = 0 := by simpa using hc
 cases hd : declL F m.at_ (parN 0 m.params ++ varN m.temps) [] 0 with
 | error E => rw [hd] at h; cases h
 | ok z =>
  obtain ⟨K, n⟩ := z
  rw [hd] at h
  simp only at h
  have hmod : ∀ q ∈ parN 0 m.params ++ varN m.temps, Mod q.1 := fun q hq => by
   have : q.1 ∈ (parN 0 m.params ++ varN m.temps).map (·.1) := List.mem_map.2 ⟨q, hq, rfl⟩
   rw [List.map_append, parN_fst, varN_fst] at this
   exact hP _ this
  obtain ⟨d1, d2, d3⟩ := decl_ren m.at_ hF _ [] 0 K n hmod (by simp) hd
  rw [List.map_append, ← parN_z, ← varN_z] at d1
  rw [List.map_append, parN_fst, varN_fst] at d2
  have d2 : K.map (·.name) = m.params ++ m.temps := by simpa using d2
  cases hr : allR F G true m.body K n with
  | error E => rw [hr] at h; cases h
  | ok z =>
   obtain ⟨is, n'⟩ := z
   rw [hr] at h
   simp only at h
   unfold checkM at hc
   by_cases hh : headB m = false
   · rw [if_pos hh] at hc; cases hc
   rw [if_neg hh] at hc
   by_cases hf : fitsK false false m.body = false
   · rw [if_pos hf] at hc; cases hc
   rw [if_neg hf] at hc
   have hf : fitsK false false m.body = true := by simpa using hf
   obtain ⟨q1, q2⟩ := ren_all hF hG _ m.body true K n is n' false false (Nat.lt_succ_self _) hN d3 hr hf
   rw [d2] at q1 q2
   have hck : checkM (rnM m) = 0 := by
    unfold checkM
    have hh2 : headB (rnM m) = true := by
     have hh : headB m = true := by simpa using hh
     unfold headB at hh ⊢
     unfold rnM
     simp only [Bool.and_eq_true] at hh ⊢
     obtain ⟨⟨⟨⟨⟨a1, a2⟩, a3⟩, a4⟩, a5⟩, a6⟩ := hh
     refine ⟨⟨⟨⟨⟨by rw [List.length_map]; exact a1, a2⟩, a3⟩, ?_⟩, ?_⟩, by rw [bodyB_rn]; exact a6⟩
     · rw [List.all_map, List.all_eq_true]
       rw [List.all_eq_true] at a4
       exact fun s hs => isName_z (a4 s hs) (hP s (List.mem_append_left _ hs)).1
     rw [List.all_map, List.all_eq_true]
     rw [List.all_eq_true] at a5
     exact fun s hs => isName_z (a5 s hs) (hP s (List.mem_append_right _ hs)).1
    rw [if_neg (by rw [hh2]; simp), if_neg (by show ¬ fitsK false false (rnL (m.params ++ m.temps) m.body) = false; rw [q1]; simp)]
    show sizedL (rnL (m.params ++ m.temps) m.body) = 0
    rw [sized_rn]; exact hc
   rw [if_neg (by rw [hck]; simp)]
   show (match declL F m.at_ (parN 0 (m.params.map zB) ++ varN (m.temps.map zB)) [] 0 with | .error E => .error E | .ok (K, n) => match allR F G true (rnL (m.params ++ m.temps) m.body) K n with | .error E => .error E | .ok (is, n') => .ok ⟨m.name, (m.params.map zB).length, n', m.prim, is⟩ : RE Cd) = .ok c
   have d1 : declL F m.at_ (parN 0 (m.params.map zB) ++ varN (m.temps.map zB)) [] 0 = .ok (rnK K, n) := d1
   rw [d1]
   simp only
   rw [q2, List.length_map]
   exact h
theorem fits_shape (l : List Nd) : ∀ (m0 mm : Bool), fitsK m0 mm l = true → ∀ x ∈ allL l, shapeB x = true := by
 refine Nd.ind (P := fun l => ∀ (m0 mm : Bool), fitsK m0 mm l = true → ∀ x ∈ allL l, shapeB x = true) ?_ ?_ l
 · intro _ _ _ x hx; rw [allL_nil] at hx; cases hx
 intro x l h1 h2 m0 mm h y hy
 rw [fitsK_cons] at h
 obtain ⟨ha, hb⟩ := Bool.and_eq_true_iff.1 h
 unfold fitsB at ha
 obtain ⟨ha, hk⟩ := Bool.and_eq_true_iff.1 ha
 obtain ⟨ha, -⟩ := Bool.and_eq_true_iff.1 ha
 obtain ⟨ha, -⟩ := Bool.and_eq_true_iff.1 ha
 rw [allL_cons] at hy
 rcases List.mem_cons.1 hy with rfl | hy
 · exact ha
 rcases List.mem_append.1 hy with hy | hy
 · exact h1 _ _ hk y hy
 exact h2 _ _ hb y hy
theorem isName_ne {s : Bytes} (h : isName s = true) : s ≠ [] := fun e => by
 subst e; revert h; decide
theorem names_shape {x : Nd} (h : shapeB x = true) : ∀ s ∈ x.names, s ≠ [] := by
 intro s hs
 by_cases h9 : x.kind = 9
 · unfold shapeB at h
   rw [if_neg (by omega), if_neg (by omega), if_neg (by omega), if_neg (by omega), if_neg (by omega), if_neg (by omega), if_neg (by omega), if_pos h9] at h
   obtain ⟨-, hb⟩ := Bool.and_eq_true_iff.1 h
   rw [List.all_eq_true] at hb
   exact isName_ne (hb s hs)
 exfalso
 have key : ∀ {a b : Bool} {k : Int}, bareB x a b k false = true → False := fun {a b k} h => by
  unfold bareB at h
  obtain ⟨-, hb⟩ := Bool.and_eq_true_iff.1 h
  have hl : (x.names.length : Int) = 0 := by simpa using hb
  have : x.names = [] := List.eq_nil_of_length_eq_zero (by omega)
  rw [this] at hs; cases hs
 unfold shapeB at h
 split at h
 · exact key h
 split at h
 · exact key h
 split at h
 · exact key h
 split at h
 · exact key (Bool.and_eq_true_iff.1 h).1
 split at h
 · exact key (Bool.and_eq_true_iff.1 h).1
 split at h
 · exact key (Bool.and_eq_true_iff.1 h).1
 split at h
 · exact key (Bool.and_eq_true_iff.1 h).1
 split at h
 · exact key h
 exact key (Bool.and_eq_true_iff.1 h).2
theorem check_names {m : Mt} (hc : checkM m = 0) : (∀ s ∈ m.params ++ m.temps, s ≠ []) ∧ ∀ x ∈ allL m.body, ∀ s ∈ x.names, s ≠ [] := by
 unfold checkM at hc
 by_cases hh : headB m = false
 · rw [if_pos hh] at hc; cases hc
 rw [if_neg hh] at hc
 by_cases hf : fitsK false false m.body = false
 · rw [if_pos hf] at hc; cases hc
 have hf : fitsK false false m.body = true := by simpa using hf
 have hh : headB m = true := by simpa using hh
 unfold headB at hh
 simp only [Bool.and_eq_true] at hh
 obtain ⟨⟨⟨⟨⟨a1, a2⟩, a3⟩, a4⟩, a5⟩, a6⟩ := hh
 rw [List.all_eq_true] at a4 a5
 refine ⟨fun s hs => ?_, fun x hx => names_shape (fits_shape _ _ _ hf x hx)⟩
 rcases List.mem_append.1 hs with hs | hs
 · exact isName_ne (a4 s hs)
 exact isName_ne (a5 s hs)
theorem res_check {F G : List Bytes} {m : Mt} {c : Cd} (h : resR F G m = .ok c) : checkM m = 0 := by
 unfold resR at h
 by_cases hc : checkM m ≠ 0
 · rw [if_pos hc] at h; cases h
 simpa using hc
theorem fair_rn (l : List Nd) : ∀ K : List Bytes, (∀ s ∈ K, s.length ≤ 60) → (∀ x ∈ allL l, ∀ s ∈ x.names, s.length ≤ 60) → (∀ x ∈ allL l, Tr.Fair x) → ∀ y ∈ allL (rnL K l), Tr.Fair y := by
 refine Nd.ind (P := fun l => ∀ K : List Bytes, (∀ s ∈ K, s.length ≤ 60) → (∀ x ∈ allL l, ∀ s ∈ x.names, s.length ≤ 60) → (∀ x ∈ allL l, Tr.Fair x) → ∀ y ∈ allL (rnL K l), Tr.Fair y) ?_ ?_ l
 · intro K _ _ _ y hy; rw [rnL_nil, allL_nil] at hy; cases hy
 intro x l h1 h2 K hK hN hF y hy
 rw [rnL_cons, allL_cons] at hy
 rw [allL_cons] at hN hF
 have hx := hF x List.mem_cons_self
 rcases List.mem_cons.1 hy with rfl | hy
 · obtain ⟨f1, f2, f3, f4⟩ := hx
   refine ⟨?_, ?_, f3, f4⟩
   · rw [rn_name]
     unfold rnS
     split
     · rename_i hs
       have := hK _ hs.2
       show x.name.length + 1 ≤ 5000
       omega
     exact f1
   rw [rn_names]
   split
   · rw [List.length_map]; exact f2
   exact f2
 rcases List.mem_append.1 hy with hy | hy
 · rw [rn_kids] at hy
   refine h1 _ (fun s hs => ?_) (fun z hz => hN z (List.mem_cons_of_mem _ (List.mem_append_left _ hz))) (fun z hz => hF z (List.mem_cons_of_mem _ (List.mem_append_left _ hz))) y hy
   split at hs
   · rcases List.mem_append.1 hs with hs | hs
     · exact hK s hs
     exact hN x List.mem_cons_self s hs
   exact hK s hs
 exact h2 K hK (fun z hz => hN z (List.mem_cons_of_mem _ (List.mem_append_right _ hz))) (fun z hz => hF z (List.mem_cons_of_mem _ (List.mem_append_right _ hz))) y hy
theorem mild_rn {l : List Nd} (h : Mild l) {K : List Bytes} (hK : ∀ s ∈ K, s.length ≤ 60) (hN : ∀ x ∈ allL l, ∀ s ∈ x.names, s.length ≤ 60) : Mild (rnL K l) :=
 ⟨by rw [cnt_rn]; exact h.few, fair_rn l K hK hN h.fair⟩
def namesM (m : Mt) : List Bytes := m.params ++ m.temps ++ (allL m.body).flatMap (·.names)
def cntI : List It → Nat
 | [] => 0
 | x :: l => 1 + cntI x.kids + cntI l
 termination_by l => SizeOf.sizeOf l
 decreasing_by all_goals (have := x.sz; simp; omega)
theorem cntI_nil : cntI [] = 0 := by unfold cntI; rfl
theorem cntI_cons (x : It) (l : List It) : cntI (x :: l) = 1 + cntI x.kids + cntI l := by rw [cntI]
theorem len_le_cntI (l : List It) : l.length ≤ cntI l := by
 induction l with
 | nil => simp
 | cons x l ih => rw [cntI_cons]; simp; omega
theorem cntI_mem {x : It} {l : List It} (h : x ∈ l) : 1 + cntI x.kids ≤ cntI l := by
 induction l with
 | nil => cases h
 | cons y l ih =>
  rw [cntI_cons]
  rcases List.mem_cons.1 h with rfl | h
  · omega
  have := ih h; omega
theorem all_cnt : ∀ (B : Nat) (l : List Nd) (F G : List Bytes) (sup : Bool) (K : List Kn) (n : Nat) (is : List It) (n' : Nat), cntL l < B → allR F G sup l K n = .ok (is, n') → cntI is ≤ cntL l := by
 intro B
 induction B with
 | zero => intro l _ _ _ _ _ _ _ hB; omega
 | succ B ih =>
  intro l
  induction l with
  | nil =>
   intro F G sup K n is n' hB h
   rw [allR_nil] at h
   obtain ⟨rfl, -⟩ := Prod.mk.inj (Except.ok.inj h)
   rw [cntI_nil]; omega
  | cons x l ihl =>
   intro F G sup K n is n' hB h
   rw [cntL_cons] at hB ⊢
   rw [allR_cons] at h
   cases ho : oneR F G sup x K n with
   | error E => rw [ho] at h; cases h
   | ok y =>
    obtain ⟨i, n1⟩ := y
    rw [ho] at h
    simp only at h
    cases hl : allR F G sup l K n1 with
    | error E => rw [hl] at h; cases h
    | ok z =>
     obtain ⟨is', n2⟩ := z
     rw [hl] at h
     obtain ⟨rfl, -⟩ := Prod.mk.inj (Except.ok.inj h)
     have h2 := ihl F G sup K n1 is' n2 (by omega) hl
     rw [cntI_cons]
     have hk : cntI i.kids ≤ cntL x.kids := by
      have fin : ∀ {sup : Bool} {K : List Kn} {n : Nat} {mk : List It → It}, (∀ ks, (mk ks).kids = ks) → (match allR F G sup x.kids K n with | .error E => .error E | .ok (ks, n') => .ok (mk ks, n') : RE (It × Nat)) = .ok (i, n1) → cntI i.kids ≤ cntL x.kids := fun {sup K n mk} hmk h => by
       cases hr : allR F G sup x.kids K n with
       | error E => rw [hr] at h; cases h
       | ok z =>
        obtain ⟨ks, n3⟩ := z
        rw [hr] at h
        obtain ⟨rfl, -⟩ := Prod.mk.inj (Except.ok.inj h)
        rw [hmk]
        exact ih x.kids F G sup K n ks n3 (by omega) hr
      have leaf : ∀ {k s : Int} {m : Nat}, (.ok (leafI k s, m) : RE (It × Nat)) = .ok (i, n1) → cntI i.kids ≤ cntL x.kids := fun {k s m} h => by
       obtain ⟨rfl, -⟩ := Prod.mk.inj (Except.ok.inj h)
       show cntI [] ≤ _
       rw [cntI_nil]; omega
      unfold oneR at ho
      split at ho
      · unfold varR at ho
        split at ho
        · exact leaf ho
        split at ho
        · exact leaf ho
        split at ho
        · exact leaf ho
        split at ho
        · cases ho
        obtain ⟨rfl, -⟩ := Prod.mk.inj (Except.ok.inj ho)
        show cntI [] ≤ _
        rw [cntI_nil]; omega
      split at ho
      · split at ho
        · cases ho
        rename_i k s _
        exact fin (mk := fun ks => .mk k [] 0 s 0 ks) (fun _ => rfl) ho
      split at ho
      · split at ho
        · cases ho
        split at ho
        · rename_i hs
          obtain ⟨-, hs⟩ := Bool.and_eq_true_iff.1 hs
          cases e : x.kids with
          | nil => unfold superB at hs; rw [e] at hs; cases hs
          | cons y t =>
           rw [e, List.tail_cons] at ho
           rw [e, cntL_cons] at hB
           rw [cntL_cons]
           cases hr : allR F G true t K n with
           | error E => rw [hr] at ho; cases ho
           | ok z =>
            obtain ⟨ks, n3⟩ := z
            rw [hr] at ho
            obtain ⟨rfl, -⟩ := Prod.mk.inj (Except.ok.inj ho)
            have h3 := ih t F G true K n ks n3 (by omega) hr
            show cntI (leafI 8 0 :: ks) ≤ _
            rw [cntI_cons]
            have : cntI (leafI 8 0).kids = 0 := cntI_nil
            omega
        exact fin (mk := fun ks => .mk 14 x.name 0 0 0 ks) (fun _ => rfl) ho
      split at ho
      · exact fin (mk := fun ks => .mk 16 [] 0 0 0 ks) (fun _ => rfl) ho
      split at ho
      · split at ho
        · cases ho
        exact fin (mk := fun ks => .mk 17 [] x.num n x.names.length ks) (fun _ => rfl) ho
      split at ho
      · exact fin (mk := fun ks => .mk 18 [] 0 0 0 ks) (fun _ => rfl) ho
      split at ho
      · exact fin (mk := fun ks => .mk x.kind x.name x.num 0 0 ks) (fun _ => rfl) ho
      exact leaf ho
     omega
theorem res_cnt {F G : List Bytes} {m : Mt} {c : Cd} (h : resR F G m = .ok c) : cntI c.body ≤ cntL m.body := by
 unfold resR at h
 split at h
 · cases h
 split at h
 · cases h
 split at h
 · cases h
 rename_i hr
 obtain rfl := Except.ok.inj h
 exact all_cnt _ _ _ _ _ _ _ _ _ (Nat.lt_succ_self _) hr
end Rv
end Go.Proofs.YtmmgfifpjifjnaaGreatDoor
