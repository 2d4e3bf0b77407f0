/- Script: append(l, m...) of two rows of one's own, and where the longer row lies. -/
import Derived.Test.YtaaknnmnkgnbjaaDoorScW6
set_option linter.unusedVariables false
namespace Go.Proofs.YtaaknnmnkgnbjaaDoor
open Go.RowKit
namespace Sc
open Bs Sm
/-- Two slices share no block. -/
def Apart (v u : Value) : Prop := ∀ k, v.ownBlock = some k → u.ownBlock ≠ some k
theorem Apart.symm {v u : Value} (h : Apart v u) : Apart u v := fun k hk hv => h k hv hk
theorem Apart.kept {v u : Value} (h : Apart v u) : u.ownBlock = none ∨ u.ownBlock ≠ v.ownBlock := by
  cases hu : u.ownBlock with
  | none => exact .inl rfl
  | some k => exact .inr (fun e => h k e.symm hu)
def Near (w : World) (v v' : Value) : Prop := v'.ownBlock = v.ownBlock ∨ ∀ k, v'.ownBlock = some k → w.heap.size ≤ k
theorem Apart.near {w : World} {v v' u : Value} (h : Apart v u) (hn : Near w v v') (hu : ∀ k, u.ownBlock = some k → k < w.heap.size) : Apart v' u := fun k hk he => by
  rcases hn with h1 | h1
  · exact h k (by rw [← h1]; exact hk) he
  · have := h1 k hk; have := hu k he; omega
theorem run_join {P : Program} {w : World} (t ty e : TypeId) (tsl : P.underlying t = some (.slice e)) (i0 : TypeInfo) (z : Value) (size bytes : Nat)
    (h2 : P.info? e = some i0) (h3 : i0.zero = some z) (h4 : i0.size = size) (h5 : i0.bytes = bytes) (h6 : z.cells.size = size) (h7 : 0 < size) {B0 B n m : Nat} {v xv : Value} {xs ys : List Value}
    (hd : w.ownsRow B0 e size v n xs) (hsrc : w.ownsRow B e size xv m ys) (hone : ∀ u ∈ ys, u.oneCell' = true) (b1 : n + m ≤ maxLen) (b2 : (n + m) * bytes ≤ 140737488355328) (hB : B0 ≤ w.heap.size) :
    ∃ v' w', (Builtin.append_ #[t, t] ty #[v, xv]).run P w = .ok v' w' ∧ w'.ownsRow B0 e size v' (n + m) (xs ++ ys) ∧ w.grownBy w' v.ownBlock ∧ Near w v v' := by
  have hl := hsrc.1
  rcases hsrc.2 with ⟨rfl, rfl⟩ | ⟨g, cap, cur, rfl, hbg, hgb, hnc, hcm, _⟩
  · obtain rfl : ys = [] := List.eq_nil_of_length_eq_zero (by rw [hl]; simp)
    exact ⟨v, w, run_append_owned_none (P := P) (w := w) B0 t ty e i0 size tsl h2 v n xs hd, by simpa using hd, ⟨rfl, rfl, rfl, Nat.le_refl _, fun _ _ _ => rfl⟩, .inl rfl⟩
  · have hcc := fun j u hj => World.ownsRow.cells hsrc (g := g) rfl j u hj
    obtain ⟨v', w', hrun, r1, r2, _⟩ := run_append_own (P := P) w B0 t ty e i0 z size bytes tsl h2 h3 h4 h5 h6 h7 v n xs hd ⟨g, 0, none⟩ m cap ys hl hcc hone b1 b2 hB
    refine ⟨v', w', hrun, r1, r2, ?_⟩
    rcases hd.2 with ⟨rfl, rfl⟩ | ⟨gd, capd, curd, rfl, hbd, hgd, hncd, hcmd, hcsd, _⟩
    · have hx : xs = [] := List.eq_nil_of_length_eq_zero (by rw [hd.1]; simp)
      subst hx
      obtain ⟨v2, w2, hrun2, q1, _, _⟩ := run_append_own (P := P) w w.heap.size t ty e i0 z size bytes tsl h2 h3 h4 h5 h6 h7 (.slice none 0 0) 0 [] (World.ownsRow_nil _ _ _ _) ⟨g, 0, none⟩ m cap ys hl hcc hone b1 b2 (Nat.le_refl _)
      rw [hrun] at hrun2
      cases hrun2
      exact .inr (fun k hk => (q1.lt k hk).1)
    · by_cases hroom : n + m ≤ capd
      · subst h4
        have hr := run_append_room (P := P) w t ty e i0 tsl h2 gd n capd curd hgd ⟨g, 0, none⟩ m cap ys hl hcc hone hroom (by rw [hl, hcsd, ← Nat.add_mul]; exact Nat.mul_le_mul_right _ hroom)
        rw [hrun] at hr
        cases hr
        exact .inl rfl
      · subst h4
        subst h5
        have hsmall : n + m ≤ 9223372036854775807 := by simp only [maxLen] at b1; omega
        have hr := run_append_grow (P := P) w t ty e i0 z tsl h2 h3 ⟨gd, 0, none⟩ n capd xs hd.1 (fun j u hj => World.ownsRow.cells hd (g := gd) rfl j u hj) ⟨g, 0, none⟩ m cap ys hl hcc (by omega) (by omega) (growslice_fits (by omega) b2)
        rw [hrun] at hr
        cases hr
        exact .inr (fun k hk => by simp [Value.ownBlock] at hk; omega)
theorem wpList_join {P : Program} (w : World) {ops : Array Oper} {rest : List Oper} {o : Oper} {a : Act} {Q : Exit → Act → World → Prop} (hg : o.guard = none) (s x : Operand) (t e : TypeId)
    (hop : o.op = Op.call { callee := Callee.builtin Builtin.append, args := #[s, x], argTypes := #[t, t] }) (tsl : P.underlying t = some (.slice e)) (i0 : TypeInfo) (z : Value) (size bytes : Nat)
    (h2 : P.info? e = some i0) (h3 : i0.zero = some z) (h4 : i0.size = size) (h5 : i0.bytes = bytes) (h6 : z.cells.size = size) (h7 : 0 < size) {B0 B n m : Nat} {v xv : Value} {xs ys : List Value}
    (hd : w.ownsRow B0 e size v n xs) (hs : a.eval s = v) (hx : a.eval x = xv) (hsrc : w.ownsRow B e size xv m ys) (hone : ∀ u ∈ ys, u.oneCell' = true) (b1 : n + m ≤ maxLen) (b2 : (n + m) * bytes ≤ 140737488355328) (hB : B0 ≤ w.heap.size)
    (hK : ∀ v' w', w'.ownsRow B0 e size v' (n + m) (xs ++ ys) → w.grownBy w' v.ownBlock → Near w v v' → wpList P ops Q rest (a.put o.dst v') w') :
    wpList P ops Q (o :: rest) a w := by
  refine wpList_plain hg fun K' hK' => ?_
  obtain ⟨v', w', hrun, r1, r2, r3⟩ := run_join t o.type e tsl i0 z size bytes h2 h3 h4 h5 h6 h7 hd hsrc hone b1 b2 hB
  unfold Oper.wp
  simp [execOp, hop, resolve, invoke, builtin, hs, hx, hrun, Result.andThen]
  exact hK' _ _ (hK v' w' r1 r2 r3)
end Sc
end Go.Proofs.YtaaknnmnkgnbjaaDoor
