/- Maps that the call itself makes: texts or numbers to numbers or truth values. No program in sight. -/
import Derived.WalkKit
import Derived.Maps.OwnOps
import Derived.Maps.OwnSet
import Derived.Maps.RangeWalk
import Derived.Sort.KeysCollected
set_option linter.unusedVariables false
namespace Go.Proofs.Ytojblndlchcjeaa
open Go.RowKit
open Go.Maps
namespace Hp
section
variable {κ α : Type} {P : Program} {kt et mt : TypeId} {b n : Nat} {kl : κ → Lit} {ok : κ → Prop} {el : α → Lit} {z : α} {f : κ → α} {g : κ → Bool} {w w' : World}
/-- Block b is a map: of each key k that may be, f k (z: what isn't there); g: which are there. -/
def MapOf (P : Program) (kt et : TypeId) (kl : κ → Lit) (ok : κ → Prop) (el : α → Lit) (z : α) (b n : Nat) (f : κ → α) (g : κ → Bool) (w : World) : Prop :=
  ∃ D : DataW Unit, w.ownsMap P kt (plainElem P et) b n D ∧ ∀ k, ok k → D.atKey (kl k) (.lit (el z)) = .lit (el (f k)) ∧ Maps.has D (kl k) = g k
theorem MapOf.made (w : World) (P : Program) (kt et : TypeId) (kl : κ → Lit) (ok : κ → Prop) (el : α → Lit) (z : α) : MapOf P kt et kl ok el z w.heap.size 0 (fun _ => z) (fun _ => false) (w.alloc (.map #[] 0)) :=
  ⟨.map [], World.ownsMap_made _ _ _ _, fun k _ => ⟨rfl, rfl⟩⟩
theorem MapOf.mono (h : MapOf P kt et kl ok el z b n f g w) {n' : Nat} (hn : n ≤ n') : MapOf P kt et kl ok el z b n' f g w := by
  obtain ⟨D, h1, h2⟩ := h
  exact ⟨D, h1.mono hn, h2⟩
theorem MapOf.lt (h : MapOf P kt et kl ok el z b n f g w) : b < w.heap.size := by obtain ⟨D, h1, _⟩ := h; exact h1.lt
theorem MapOf.kept {row : Option Nat} (h : MapOf P kt et kl ok el z b n f g w) (hg : w.grownBy w' row) (hne : some b ≠ row) : MapOf P kt et kl ok el z b n f g w' := by
  obtain ⟨D, h1, h2⟩ := h
  exact ⟨D, h1.kept hg hne, h2⟩
theorem MapOf.block (h : MapOf P kt et kl ok el z b n f g w) (hb : w'.heap[b]? = w.heap[b]?) : MapOf P kt et kl ok el z b n f g w' := by
  obtain ⟨D, ⟨es, c, h1, h3⟩, h2⟩ := h
  exact ⟨D, ⟨es, c, hb.trans h1, h3⟩, h2⟩
theorem MapOf.bel (h : MapOf P kt et kl ok el z b n f g w) (hb : Below w.heap.size w w') : MapOf P kt et kl ok el z b n f g w' := h.block (hb.block b h.lt)
theorem MapOf.look (h : MapOf P kt et kl ok el z b n f g w) (K : Keyed P kt) (ht : P.underlying mt = some (.map kt et)) (val : α → Value) (hz : (zeroValue et).run P w = .ok (val z) w)
    (hm : plainElem (H := Unit) P et (val z) = some (.lit (el z), [])) (hi : ∀ v a ps, plainElem (H := Unit) P et v = some (.lit (el a), ps) → v = val a) (k : κ) (hk : ok k) (kv : Value) (hkey : keyOf P kt kv = some (kl k)) :
    (Instr.lookup mt (.map (some b)) kv false).run P w = .ok (val (f k)) w := by
  obtain ⟨D, h1, h2⟩ := h
  obtain ⟨v, ps, hrun, hv⟩ := h1.lookup K ht hz hm hkey
  rw [(h2 k hk).1] at hv
  rw [hrun, hi v _ ps hv]
theorem MapOf.put [DecidableEq κ] (h : MapOf P kt et kl ok el z b n f g w) (K : Keyed P kt) (ht : P.underlying mt = some (.map kt et)) (hn : n < maxLen) (inj : ∀ k k', kl k = kl k' → k = k') (hlit : ∀ k, WideAt.IsKeyLit (kl k))
    (k : κ) (kv v : Value) (a : α) (hkey : keyOf P kt kv = some (kl k)) (hv : plainElem (H := Unit) P et v = some (.lit (el a), [])) :
    ∃ w', (Instr.mapUpdate mt (.map (some b)) kv v).run P w = .ok () w' ∧ MapOf P kt et kl ok el z b (n + 1) (fun x => if x = k then a else f x) (fun x => if x = k then true else g x) w' ∧ w.grownBy w' (some b) := by
  obtain ⟨D, h1, h2⟩ := h
  obtain ⟨w', hrun, r1, r2⟩ := h1.update K ht hn hkey hv
  refine ⟨w', hrun, ⟨_, r1, fun x hx => ?_⟩, r2⟩
  by_cases e : x = k
  · subst e
    dsimp only
    rw [if_pos rfl, if_pos rfl]
    exact ⟨atKey_put_same h1.isMap (hlit _) _ _, has_put_same h1.isMap (hlit _) _⟩
  · dsimp only
    rw [if_neg e, if_neg e]
    have hne : kl x ≠ kl k := fun h => e (inj _ _ h)
    rw [atKey_put_other hne, has_put_other hne]
    exact h2 x hx
end
/-! ### Texts to numbers -/
abbrev MapS (P : Program) (kt et : TypeId) (q : IntKind) (b n : Nat) (f : List UInt8 → Int) (g : List UInt8 → Bool) (w : World) : Prop := MapOf P kt et Lit.string (fun k : List UInt8 => k.length ≤ maxLen) (Lit.int q) 0 b n f g w
section
variable {P : Program} {kt et mt : TypeId} {b n : Nat} {q : IntKind} {f : List UInt8 → Int} {g : List UInt8 → Bool} {w : World}
theorem zero_wf (q : IntKind) : (Lit.int q 0).wf = true := by cases q <;> decide
theorem int_inv {H : Type} (he : P.underlying et = some (.int q)) (v : Value) (a : Int) (ps : List MemPlace) (h : plainElem (H := H) P et v = some (.lit (.int q a), ps)) : v = .int q a := by
  obtain ⟨c, rfl, hc, _⟩ := plainElem_int_inv he h
  cases hc; rfl
theorem bool_inv {H : Type} (he : P.underlying et = some .bool) (v : Value) (a : Bool) (ps : List MemPlace) (h : plainElem (H := H) P et v = some (.lit (.bool a), ps)) : v = .bool a := by
  unfold plainElem at h
  rw [he] at h
  cases v <;> simp at h
  rw [h.1]
theorem MapS.look (h : MapS P kt et q b n f g w) (hk : P.underlying kt = some .string) (ht : P.underlying mt = some (.map kt et)) (he : P.underlying et = some (.int q)) (hz : (zeroValue et).run P w = .ok (.int q 0) w) (s : List UInt8) (hs : s.length ≤ maxLen) :
    (Instr.lookup mt (.map (some b)) (.string ⟨s.toArray⟩) false).run P w = .ok (.int q (f s)) w :=
  MapOf.look h (string_keyed hk) ht (Value.int q) hz (plainElem_int he (zero_wf q)) (int_inv he) s hs _ (WideMaps.keyOf_string_mk hk (by simpa [ByteArray.size] using hs))
theorem MapS.put (h : MapS P kt et q b n f g w) (hk : P.underlying kt = some .string) (ht : P.underlying mt = some (.map kt et)) (he : P.underlying et = some (.int q)) (hn : n < maxLen) (s : List UInt8) (hs : s.length ≤ maxLen) (a : Int) (ha : (Lit.int q a).wf = true) :
    ∃ w', (Instr.mapUpdate mt (.map (some b)) (.string ⟨s.toArray⟩) (.int q a)).run P w = .ok () w' ∧ MapS P kt et q b (n + 1) (fun x => if x = s then a else f x) (fun x => if x = s then true else g x) w' ∧ w.grownBy w' (some b) :=
  MapOf.put h (string_keyed hk) ht hn (fun _ _ e => by cases e; rfl) (fun _ => trivial) s _ _ a (WideMaps.keyOf_string_mk hk (by simpa [ByteArray.size] using hs)) (plainElem_int he ha)
end
/-! ### Numbers to numbers, and to truth values -/
abbrev MapI (P : Program) (kt et : TypeId) (qk qe : IntKind) (b n : Nat) (f : Int → Int) (g : Int → Bool) (w : World) : Prop := MapOf P kt et (Lit.int qk) (fun k => (Lit.int qk k).wf = true) (Lit.int qe) 0 b n f g w
abbrev MapB (P : Program) (kt et : TypeId) (qk : IntKind) (b n : Nat) (f : Int → Bool) (g : Int → Bool) (w : World) : Prop := MapOf P kt et (Lit.int qk) (fun k => (Lit.int qk k).wf = true) Lit.bool false b n f g w
section
variable {P : Program} {kt et mt : TypeId} {b n : Nat} {qk qe : IntKind} {f : Int → Int} {f' : Int → Bool} {g : Int → Bool} {w : World}
theorem MapI.look (h : MapI P kt et qk qe b n f g w) (hk : P.underlying kt = some (.int qk)) (ht : P.underlying mt = some (.map kt et)) (he : P.underlying et = some (.int qe)) (hz : (zeroValue et).run P w = .ok (.int qe 0) w) (k : Int) (hw : (Lit.int qk k).wf = true) :
    (Instr.lookup mt (.map (some b)) (.int qk k) false).run P w = .ok (.int qe (f k)) w :=
  MapOf.look h (int_keyed hk) ht (Value.int qe) hz (plainElem_int he (zero_wf qe)) (int_inv he) k hw _ (keyOf_int_mk hk hw)
theorem MapB.look (h : MapB P kt et qk b n f' g w) (hk : P.underlying kt = some (.int qk)) (ht : P.underlying mt = some (.map kt et)) (he : P.underlying et = some .bool) (hz : (zeroValue et).run P w = .ok (.bool false) w) (k : Int) (hw : (Lit.int qk k).wf = true) :
    (Instr.lookup mt (.map (some b)) (.int qk k) false).run P w = .ok (.bool (f' k)) w :=
  MapOf.look h (int_keyed hk) ht Value.bool hz (plainElem_bool he false) (bool_inv he) k hw _ (keyOf_int_mk hk hw)
theorem MapB.put (h : MapB P kt et qk b n f' g w) (hk : P.underlying kt = some (.int qk)) (ht : P.underlying mt = some (.map kt et)) (he : P.underlying et = some .bool) (hn : n < maxLen) (k : Int) (hw : (Lit.int qk k).wf = true) (a : Bool) :
    ∃ w', (Instr.mapUpdate mt (.map (some b)) (.int qk k) (.bool a)).run P w = .ok () w' ∧ MapB P kt et qk b (n + 1) (fun x => if x = k then a else f' x) (fun x => if x = k then true else g x) w' ∧ w.grownBy w' (some b) :=
  MapOf.put h (int_keyed hk) ht hn (fun _ _ e => by cases e; rfl) (fun _ => trivial) k _ _ a (keyOf_int_mk hk hw) (plainElem_bool he a)
end
end Hp
end Go.Proofs.Ytojblndlchcjeaa
