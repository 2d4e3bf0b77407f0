/- Script: the counts of a command's words, a map that is laid by hand. -/
import Derived.Test.YtaaknnmnkgnbjaaDoorScW4
import Derived.Maps.OwnOps
import Derived.WideMake
set_option linter.unusedVariables false
namespace Go.Proofs.YtaaknnmnkgnbjaaDoor
open Go.RowKit
namespace Sc
open Bs Sm
theorem run_put {P : Program} {w : World} {mty kt et : TypeId} {q : IntKind} {r clock : Nat} {es : Array MapEntry} (hm : P.underlying mty = some (.map kt et)) (hk : P.underlying kt = some (.int q)) (hb : w.heap[r]? = some (.map es clock))
    (a : Int) (val : Value) (hf : Instr.findNow (.int q) (.int q a) es.toList 0 = some none) :
    ∃ w', (Instr.mapUpdate mty (.map (some r)) (.int q a) val).run P w = .ok () w' ∧ w'.heap[r]? = some (.map (es.push ⟨.int q a, val, clock⟩) (clock + 1)) ∧ w.grownBy w' (some r) := by
  have hc : (Instr.checkKey false 10000 kt (.int q a)).run P w = .ok () w := MapKept.run_checkKey (k := .int q a) hk (by simp [MapKept.IsKey]) false 9999
  refine ⟨{ w with heap := w.heap.setIfInBounds r (.map (es.push ⟨.int q a, val, clock⟩) (clock + 1)) }, ?_, (MapKept.heap_set hb).1, ⟨rfl, rfl, rfl, by simp, fun i _ hi => (MapKept.heap_set hb).2 i (fun e => hi (by rw [e]))⟩⟩
  simp [Instr.mapUpdate, run_underlying hm, MapKept.run_getObj_map hb, hc, MapKept.run_findKey hk hf, MapKept.run_setObj_map _ hb, Result.andThen]
def askV (z : Value) : Option (Nat × Value) → Value
  | some (_, v) => .tuple #[v, .bool true]
  | none => .tuple #[z, .bool false]
theorem run_ask {P : Program} {w : World} {mty kt et : TypeId} {q : IntKind} {r clock : Nat} {es : Array MapEntry} (hm : P.underlying mty = some (.map kt et)) (hk : P.underlying kt = some (.int q)) (hb : w.heap[r]? = some (.map es clock))
    (z : Value) (hz : (zeroValue et).run P w = .ok z w) (a : Int) (f : Option (Nat × Value)) (hf : Instr.findNow (.int q) (.int q a) es.toList 0 = some f) :
    (Instr.lookup mty (.map (some r)) (.int q a) true).run P w = .ok (askV z f) w := by
  have hc : (Instr.checkKey es.isEmpty 10000 kt (.int q a)).run P w = .ok () w := MapKept.run_checkKey (k := .int q a) hk (by simp [MapKept.IsKey]) _ 9999
  cases f with
  | none => simp [Instr.lookup, run_underlying hm, MapKept.run_getObj_map hb, hc, MapKept.run_findKey hk hf, hz, Result.andThen, askV]
  | some p => obtain ⟨i, v⟩ := p; simp [Instr.lookup, run_underlying hm, MapKept.run_getObj_map hb, hc, MapKept.run_findKey hk hf, Result.andThen, askV]
def eI (a b : Int) (n : Nat) : MapEntry := ⟨.int .i64 a, .int .i64 b, n⟩
def esC : Array MapEntry := #[eI 1 1 0, eI 5 1 1, eI 6 1 2, eI 7 0 3, eI 8 2 4]
/-- How many words a kind has; is that told? -/
def cntK : Nat → Int
  | 1 => 1 | 5 => 1 | 6 => 1 | 7 => 0 | 8 => 2 | _ => 0
def hasK : Nat → Bool
  | 1 => true | 5 => true | 6 => true | 7 => true | 8 => true | _ => false
theorem find_counts : ∀ K : Nat, K ≤ 8 → ∃ f, Instr.findNow (.int .i64) (.int .i64 (K : Int)) esC.toList 0 = some f ∧ askV (.int .i64 0) f = .tuple #[.int .i64 (cntK K), .bool (hasK K)] := by
  intro K hK
  match K, hK with
  | 0, _ => exact ⟨none, rfl, rfl⟩
  | 1, _ => exact ⟨_, rfl, rfl⟩
  | 2, _ => exact ⟨none, rfl, rfl⟩
  | 3, _ => exact ⟨none, rfl, rfl⟩
  | 4, _ => exact ⟨none, rfl, rfl⟩
  | 5, _ => exact ⟨_, rfl, rfl⟩
  | 6, _ => exact ⟨_, rfl, rfl⟩
  | 7, _ => exact ⟨_, rfl, rfl⟩
  | 8, _ => exact ⟨_, rfl, rfl⟩
abbrev MT : Nat := 53
/-- The map is laid, world by world. -/
theorem counts_laid (w : World) : ∃ X0 X1 X2 X3 X4 X5, (Instr.makeMap MT none).run Tryd.prog w = .ok (.map (some w.heap.size)) X0 ∧
    (Instr.mapUpdate MT (.map (some w.heap.size)) (.int .i64 1) (.int .i64 1)).run Tryd.prog X0 = .ok () X1 ∧
    (Instr.mapUpdate MT (.map (some w.heap.size)) (.int .i64 5) (.int .i64 1)).run Tryd.prog X1 = .ok () X2 ∧
    (Instr.mapUpdate MT (.map (some w.heap.size)) (.int .i64 6) (.int .i64 1)).run Tryd.prog X2 = .ok () X3 ∧
    (Instr.mapUpdate MT (.map (some w.heap.size)) (.int .i64 7) (.int .i64 0)).run Tryd.prog X3 = .ok () X4 ∧
    (Instr.mapUpdate MT (.map (some w.heap.size)) (.int .i64 8) (.int .i64 2)).run Tryd.prog X4 = .ok () X5 ∧
    Below w.heap.size w X5 ∧ ∀ K : Nat, K ≤ 8 → (Instr.lookup MT (.map (some w.heap.size)) (.int .i64 (K : Int)) true).run Tryd.prog X5 = .ok (.tuple #[.int .i64 (cntK K), .bool (hasK K)]) X5 := by
  have tm : Tryd.prog.underlying MT = some (.map 3 3) := by kernel_rfl
  have tk : Tryd.prog.underlying 3 = some (.int .i64) := by kernel_rfl
  have hz : ∀ w, (zeroValue 3).run Tryd.prog w = .ok (.int .i64 0) w := fun w => by kernel_rfl
  have h0 : (w.alloc (.map #[] 0)).heap[w.heap.size]? = some (.map #[] 0) := (MapKept.heap_alloc w _).1
  have b0 : Below w.heap.size w (w.alloc (.map #[] 0)) := (Below.refl _ w).alloc (Nat.le_refl _) _
  obtain ⟨X1, r1, h1, g1⟩ := run_put tm tk h0 1 (.int .i64 1) rfl
  obtain ⟨X2, r2, h2, g2⟩ := run_put tm tk h1 5 (.int .i64 1) rfl
  obtain ⟨X3, r3, h3, g3⟩ := run_put tm tk h2 6 (.int .i64 1) rfl
  obtain ⟨X4, r4, h4, g4⟩ := run_put tm tk h3 7 (.int .i64 0) rfl
  obtain ⟨X5, r5, h5, g5⟩ := run_put tm tk h4 8 (.int .i64 2) rfl
  have hrow : ∀ k, some w.heap.size = some k → w.heap.size ≤ k := fun k h => by cases h; exact Nat.le_refl _
  have b1 := b0.grown g1 b0.size hrow
  have b2 := b1.grown g2 b1.size hrow
  have b3 := b2.grown g3 b2.size hrow
  have b4 := b3.grown g4 b3.size hrow
  have b5 := b4.grown g5 b4.size hrow
  refine ⟨_, X1, X2, X3, X4, X5, Go.run_makeMap_plain w MT, r1, r2, r3, r4, r5, b5, fun K hK => ?_⟩
  obtain ⟨f, f1, f2⟩ := find_counts K hK
  rw [run_ask tm tk h5 (.int .i64 0) (hz X5) (K : Int) f f1, f2]
end Sc
end Go.Proofs.YtaaknnmnkgnbjaaDoor
