/- What the laws of chapter 10 lean on: a struct stored anew (printed by gen_trl1.py). -/
import Derived.Test.YtfbhokdcnjekiaaGreatDoorTrAw
import Derived.Test.YtfbhokdcnjekiaaGreatDoorTrCut
set_option linter.unusedVariables false
namespace Go.Proofs.YtfbhokdcnjekiaaGreatDoor
open Go.RowKit
namespace Tr
open Bs Sm
/-- A block of six cells, each of which is stored anew. -/
theorem six {T k : Nat} {u0 u1 u2 u3 u4 u5 : Value} {w : World} (h : Blk T k #[u0, u1, u2, u3, u4, u5] w) (v0 v1 v2 v3 v4 v5 : Value) :
  Blk T k #[v0, v1, v2, v3, v4, v5] ((((((w.setCell ⟨k, 0, none⟩ v0).setCell ⟨k, 1, none⟩ v1).setCell ⟨k, 2, none⟩ v2).setCell ⟨k, 3, none⟩ v3).setCell ⟨k, 4, none⟩ v4).setCell ⟨k, 5, none⟩ v5) :=
 ((((((h.set_ 0 v0 _ rfl).set_ 1 v1 _ rfl).set_ 2 v2 _ rfl).set_ 3 v3 _ rfl).set_ 4 v4 _ rfl).set_ 5 v5 _ rfl)
theorem six_two {k : Nat} (w : World) (v0 v1 v2 v3 v4 v5 : Value) :
  Two k k w ((((((w.setCell ⟨k, 0, none⟩ v0).setCell ⟨k, 1, none⟩ v1).setCell ⟨k, 2, none⟩ v2).setCell ⟨k, 3, none⟩ v3).setCell ⟨k, 4, none⟩ v4).setCell ⟨k, 5, none⟩ v5) :=
 ((((((Two.refl k k w).km 0 v0).km 1 v1).km 2 v2).km 3 v3).km 4 v4).km 5 v5
theorem six_at {T k : Nat} {u0 u1 u2 u3 u4 u5 v0 v1 v2 v3 v4 v5 : Value} {w w' : World} (e : ((((((w.setCell ⟨k, 0, none⟩ v0).setCell ⟨k, 1, none⟩ v1).setCell ⟨k, 2, none⟩ v2).setCell ⟨k, 3, none⟩ v3).setCell ⟨k, 4, none⟩ v4).setCell ⟨k, 5, none⟩ v5) = w') (h : Blk T k #[u0, u1, u2, u3, u4, u5] w) : Blk T k #[v0, v1, v2, v3, v4, v5] w' := by subst e; exact six h _ _ _ _ _ _
theorem two_at {k : Nat} {v0 v1 v2 v3 v4 v5 : Value} {w w' : World} (e : ((((((w.setCell ⟨k, 0, none⟩ v0).setCell ⟨k, 1, none⟩ v1).setCell ⟨k, 2, none⟩ v2).setCell ⟨k, 3, none⟩ v3).setCell ⟨k, 4, none⟩ v4).setCell ⟨k, 5, none⟩ v5) = w') : Two k k w w' := by subst e; exact six_two _ _ _ _ _ _ _
theorem Two.blk {k j T : Nat} {cs : Array Value} {w w' : World} (h : Two k k w w') (hb : Blk T j cs w) (hj : j ≠ k) : Blk T j cs w' := (h.block j hj hj).trans hb
theorem MtAt.two {S : Nat → Prop} {k : Nat} {w w' : World} {m : Mt} {pv tv bv : Value} (h : MtAt S w m pv tv bv) (ht : Two k k w w') (hS : ∀ b, S b → b ≠ k) : MtAt S w' m pv tv bv :=
 h.kp ⟨Nat.le_of_eq ht.size.symm, fun b hb _ => ht.block b (hS b hb) (hS b hb)⟩
theorem MtAt.form {S : Nat → Prop} {w : World} {m : Mt} {pv tv bv : Value} (h : MtAt S w m pv tv bv) : ∃ pa pc ta tc ba bc, pv = .slice pa m.params.length pc ∧ tv = .slice ta m.temps.length tc ∧ bv = .slice ba m.body.length bc := by
 obtain ⟨pa, pc, e1, _⟩ := h.params.form
 obtain ⟨ta, tc, e2, _⟩ := h.temps.form
 obtain ⟨ba, bc, e3, _⟩ := h.body.form
 exact ⟨pa, pc, ta, tc, ba, bc, e1, e2, e3⟩
theorem Two.bel {k B : Nat} {w0 w w' : World} (h : Two k k w w') (hb : Below B w0 w) (hk : B ≤ k) : Below B w0 w' :=
 ⟨h.os.trans hb.os, h.tape.trans hb.tape, h.output.trans hb.output, by rw [h.size]; exact hb.size, fun b hlt => (h.block b (by omega) (by omega)).trans (hb.block b hlt)⟩
end Tr
end Go.Proofs.YtfbhokdcnjekiaaGreatDoor
