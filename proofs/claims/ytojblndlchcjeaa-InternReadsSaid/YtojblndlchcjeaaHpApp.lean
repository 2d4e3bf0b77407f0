/- append(out, l...) of rows that can be read, as equations for the walk. No program in sight. -/
import Derived.Test.YtojblndlchcjeaaHpRd
import Derived.Laws.AppendOwn
import Derived.Laws.AppendOwnNone
set_option linter.unusedVariables false
namespace Go.Proofs.Ytojblndlchcjeaa
open Go.RowKit
namespace Hp
open Bs Sm
theorem run_rd {α : Type} {S : Nat → Prop} {f : α → Value} (hf : ∀ x, (f x).oneCell' = true) {P : Program} {w : World} (t ty e : TypeId) (tsl : P.underlying t = some (.slice e)) (i0 : TypeInfo) (z : Value) (bytes : Nat)
    (h2 : P.info? e = some i0) (h3 : i0.zero = some z) (h4 : i0.size = 1) (h5 : i0.bytes = bytes) (h6 : z.cells.size = 1) {B0 n : Nat} {v xv : Value} {xs : List Value} {l : List α}
    (hd : w.ownsRow B0 e 1 v n xs) (hs : Rd S f w xv l) (b1 : n + l.length ≤ maxLen) (b2 : (n + l.length) * bytes ≤ 140737488355328) (hB : B0 ≤ w.heap.size) :
    ∃ v' w', (Builtin.append_ #[t, t] ty #[v, xv]).run P w = .ok v' w' ∧ w'.ownsRow B0 e 1 v' (n + l.length) (xs ++ l.map f) ∧ w.grownBy w' v.ownBlock := by
  obtain ⟨a, cap, rfl, hc, hm, hnone, hcell⟩ := hs
  cases a with
  | none =>
    obtain rfl := hnone rfl
    obtain rfl : l = [] := List.eq_nil_of_length_eq_zero (by omega)
    exact ⟨v, w, run_append_owned_none (P := P) (w := w) B0 t ty e i0 1 tsl h2 v n xs hd, by simpa using hd, ⟨rfl, rfl, rfl, Nat.le_refl _, fun _ _ _ => rfl⟩⟩
  | some ad =>
    obtain ⟨v', w', hrun, r1, r2, _⟩ := run_append_own (P := P) w B0 t ty e i0 z 1 bytes tsl h2 h3 h4 h5 h6 (by decide) v n xs hd ad l.length cap (l.map f) (by simp) (fun j u hj => by
      rw [List.getElem?_map] at hj
      obtain ⟨x, hx, rfl⟩ := Option.map_eq_some_iff.1 hj
      have hjl := (List.getElem?_eq_some_iff.1 hx).1
      obtain ⟨b, off, hab, _, _, hcc⟩ := hcell (by omega)
      cases hab
      have e : (⟨b, off, none⟩ : Addr).add j = ⟨b, off + j, none⟩ := by unfold Addr.add; split <;> simp_all
      rw [e]
      exact hcc j x hx) (fun u hu => by obtain ⟨x, _, rfl⟩ := List.mem_map.1 hu; exact hf x) b1 b2 hB
    exact ⟨v', w', hrun, r1, r2⟩/-- A block of its own, read as a slice. -/
theorem Rd.blk {α : Type} {f : α → Value} {e g : Nat} {l : List α} {w : World} (h : Blk e g (rowV f l) w) (hl : l.length ≤ maxLen) : Rd (fun b => b = g) f w (.slice (some ⟨g, 0, none⟩) l.length l.length) l :=
  ⟨some ⟨g, 0, none⟩, l.length, rfl, Nat.le_refl _, hl, (fun h => by cases h), fun _ => ⟨g, 0, rfl, rfl, h.lt, fun i x hx => by
    rw [Nat.zero_add]
    exact h.c i _ (rowV_get hx)⟩⟩
/-- append by an equation of its run. -/
theorem wpList_app {P : Program} {w : World} {ops : Array Oper} {rest : List Oper} {o : Oper} {a : Act} {Q : Exit → Act → World → Prop} (hg : o.guard = none) (s x : Operand) (t : TypeId)
    (hop : o.op = Op.call { callee := Callee.builtin Builtin.append, args := #[s, x], argTypes := #[t, t] }) (v xv v' : Value) (w' : World) (hs : a.eval s = v) (hx : a.eval x = xv)
    (hrun : (Builtin.append_ #[t, t] o.type #[v, xv]).run P w = .ok v' w') (hK : wpList P ops Q rest (a.put o.dst v') w') : wpList P ops Q (o :: rest) a w := by
  refine wpList_plain hg fun K hK' => ?_
  unfold Oper.wp
  simp [execOp, hop, resolve, invoke, builtin, hs, hx, hrun, Result.andThen]
  exact hK' _ _ hK
/-- .. as a step of a region that draws its order. -/
theorem step_app {P : Program} {ops : Array Oper} {o : Oper} {a : Act} {w : World} {K : Act → World → Prop} {Q : Exit → Act → World → Prop} {E' : Prop} (hg : o.guard = none) (s x : Operand) (t : TypeId)
    (hop : o.op = Op.call { callee := Callee.builtin Builtin.append, args := #[s, x], argTypes := #[t, t] }) (v xv v' : Value) (w' : World) (hs : a.eval s = v) (hx : a.eval x = xv)
    (hrun : (Builtin.append_ #[t, t] o.type #[v, xv]).run P w = .ok v' w') (hK : K (a.put o.dst v') w') :
    if Region.wanted o (yielded ops a.tmps) = true then Oper.wp P o a w K Q else E' := by
  have hw : Region.wanted o (yielded ops a.tmps) = true := by simp [Region.wanted, hg]
  rw [if_pos hw]
  unfold Oper.wp
  simp [execOp, hop, resolve, invoke, builtin, hs, hx, hrun, Result.andThen]
  exact hK
end Hp
end Go.Proofs.Ytojblndlchcjeaa
