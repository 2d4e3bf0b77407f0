/- append of strings that lie elsewhere (out of TrNds). -/
import Derived.Test.YtbdgoimbddlcoaaGreatDoorPaWi
set_option linter.unusedVariables false
namespace Go.Proofs.YtbdgoimbddlcoaaGreatDoor
open Go.RowKit
namespace Tr
open Bs Sm
theorem run_rd {α : Type} {f : α → Value} {S : Nat → Prop} (hf : ∀ x, (f x).oneCell' = true) {P : Program} {w : World} (t ty e : TypeId) (tsl : P.underlying t = some (.slice e)) (i0 : TypeInfo) (z : Value) (bytes : Nat)
  (h2 : P.info? e = some i0) (h3 : i0.zero = some z) (h4 : i0.size = 1) (h5 : i0.bytes = bytes) (h6 : z.cells.size = 1) {B0 n : Nat} {v xv : Value} {xs : List Value} {l : List α}
  (hd : w.ownsRow B0 e 1 v n xs) (hs : Rd S f w xv l) (b1 : n + l.length ≤ maxLen) (b2 : (n + l.length) * bytes ≤ 140737488355328) (hB : B0 ≤ w.heap.size) :
  ∃ v' w', (Builtin.append_ #[t, t] ty #[v, xv]).run P w = .ok v' w' ∧ w'.ownsRow B0 e 1 v' (n + l.length) (xs ++ l.map f) ∧ w.grownBy w' v.ownBlock ∧ (v'.ownBlock = v.ownBlock ∨ v'.ownBlock = some w.heap.size) := by
 obtain ⟨a, cap, rfl, hc, hm, hnone, hcell⟩ := hs
 cases a with
 | none =>
  obtain rfl := hnone rfl
  obtain rfl : l = [] := List.eq_nil_of_length_eq_zero (by omega)
  exact ⟨v, w, run_append_owned_none (P := P) (w := w) B0 t ty e i0 1 tsl h2 v n xs hd, by simpa using hd, ⟨rfl, rfl, rfl, Nat.le_refl _, fun _ _ _ => rfl⟩, .inl rfl⟩
 | some ad =>
  obtain ⟨v', w', hrun, r1, r2, _, r3⟩ := run_append_own_at (P := P) w B0 t ty e i0 z 1 bytes tsl h2 h3 h4 h5 h6 (by decide) v n xs hd ad l.length cap (l.map f) (by simp) (fun j u hj => by
   rw [List.getElem?_map] at hj
   obtain ⟨x, hx, rfl⟩ := Option.map_eq_some_iff.1 hj
   have hjl := (List.getElem?_eq_some_iff.1 hx).1
   obtain ⟨b, off, hab, _, _, hcc⟩ := hcell (by omega)
   cases hab
   have e : (⟨b, off, none⟩ : Addr).add j = ⟨b, off + j, none⟩ := by unfold Addr.add; split <;> simp_all
   rw [e]
   exact hcc j x hx) (fun u hu => by obtain ⟨x, _, rfl⟩ := List.mem_map.1 hu; exact hf x) b1 b2 hB
  exact ⟨v', w', hrun, r1, r2, r3⟩
theorem step_rd {α : Type} {f : α → Value} {S : Nat → Prop} (hf : ∀ x, (f x).oneCell' = true) {P : Program} {w : World} {ops : Array Oper} {o : Oper} {a : Act} {K : Act → World → Prop} {Q : Exit → Act → World → Prop} {E' : Prop} (hg : o.guard = none) (s x : Operand) (t e : TypeId)
  (hop : o.op = Op.call { callee := Callee.builtin Builtin.append, args := #[s, x], argTypes := #[t, t] }) (tsl : P.underlying t = some (.slice e)) (i0 : TypeInfo) (z : Value) (bytes : Nat)
  (h2 : P.info? e = some i0) (h3 : i0.zero = some z) (h4 : i0.size = 1) (h5 : i0.bytes = bytes) (h6 : z.cells.size = 1) {B0 n : Nat} {v xv : Value} {xs : List Value} {l : List α}
  (hd : w.ownsRow B0 e 1 v n xs) (hs : a.eval s = v) (hx : a.eval x = xv) (hsrc : Rd S f w xv l) (b1 : n + l.length ≤ maxLen) (b2 : (n + l.length) * bytes ≤ 140737488355328) (hB : B0 ≤ w.heap.size)
  (hK : ∀ v' w', w'.ownsRow B0 e 1 v' (n + l.length) (xs ++ l.map f) → w.grownBy w' v.ownBlock → (v'.ownBlock = v.ownBlock ∨ v'.ownBlock = some w.heap.size) → K (a.put o.dst v') w') :
  if Region.wanted o (yielded ops a.tmps) = true then Oper.wp P o a w K Q else E' := by
 have hw : Region.wanted o (yielded ops a.tmps) = true := by simp [Region.wanted, hg]
 rw [if_pos hw]
 obtain ⟨v', w', hrun, r1, r2, r3⟩ := run_rd hf t o.type e tsl i0 z bytes h2 h3 h4 h5 h6 hd hsrc b1 b2 hB
 unfold Oper.wp
 simp [execOp, hop, resolve, invoke, builtin, hs, hx, hrun, Result.andThen]
 exact hK v' w' r1 r2 r3
end Tr
end Go.Proofs.YtbdgoimbddlcoaaGreatDoor
