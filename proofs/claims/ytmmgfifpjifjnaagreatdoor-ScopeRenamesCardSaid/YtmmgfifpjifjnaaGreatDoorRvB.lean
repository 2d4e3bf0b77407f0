/- Items in memory; the resolver's memory. · Package scope, the walk, 1: pseudo, find. · Package scope, the walk, 2: find, Contains. · Package scope, the walk, 3: field (a range over slices.Backward). -/
import Derived.Test.YtmmgfifpjifjnaaGreatDoorRvA
import Derived.Test.YtmmgfifpjifjnaaGreatDoorTrC
import Derived.Maps.OwnOps
import Derived.WideMake
import Derived.MapKept
import Derived.RangeFuncBox
import Derived.RangeFuncLeaves
import Derived.Shelf.Abstract
import Derived.WalkKit
import Derived.OwnWalkIn
import Derived.TacticsInMore
import Derived.LoopNIn
import Derived.LoopIn
set_option linter.unusedVariables false
namespace Go.Proofs.YtmmgfifpjifjnaaGreatDoor
open Go.RowKit
namespace Rv
open Bs Sm Tr
def itC (x : It) (kv : Value) : List Value := [.int .i64 x.kind, .string ⟨x.name.toArray⟩, .int .i64 x.num, .int .i64 x.slot, .int .i64 x.width, kv]
def itV (x : It) (kv : Value) : Value := .agg #[.int .i64 x.kind, .string ⟨x.name.toArray⟩, .int .i64 x.num, .int .i64 x.slot, .int .i64 x.width, kv]
def IRow (w : World) (b o : Nat) (x : It) (kv : Value) : Prop :=
 w.cell? ⟨b, o, none⟩ = some (.int .i64 x.kind) ∧ w.cell? ⟨b, o + 1, none⟩ = some (.string ⟨x.name.toArray⟩) ∧ w.cell? ⟨b, o + 2, none⟩ = some (.int .i64 x.num) ∧ w.cell? ⟨b, o + 3, none⟩ = some (.int .i64 x.slot) ∧ w.cell? ⟨b, o + 4, none⟩ = some (.int .i64 x.width) ∧ w.cell? ⟨b, o + 5, none⟩ = some kv
theorem IRow.kp {w w' : World} {b o : Nat} {x : It} {kv : Value} (h : IRow w b o x kv) (hk : ∀ i, w'.cell? ⟨b, i, none⟩ = w.cell? ⟨b, i, none⟩) : IRow w' b o x kv := by
 obtain ⟨h0, h1, h2, h3, h4, h5⟩ := h
 exact ⟨(hk _).trans h0, (hk _).trans h1, (hk _).trans h2, (hk _).trans h3, (hk _).trans h4, (hk _).trans h5⟩
inductive Its (S : Nat → Prop) (w : World) : Value → List It → Prop
 | mk (vl : List (It × Value)) (a : Option Addr) (cap : Nat) (h1 : vl.length ≤ cap) (h2 : cap ≤ maxLen)
   (hc : 0 < vl.length → ∃ b off, a = some ⟨b, off, none⟩ ∧ S b ∧ b < w.heap.size ∧ ∀ i x, vl[i]? = some x → IRow w b (off + i * 6) x.1 x.2)
   (hk : ∀ x ∈ vl, Its S w x.2 x.1.kids) : Its S w (.slice a vl.length cap) (vl.map (·.1))
section
variable {S S' : Nat → Prop} {w w' : World} {v : Value} {l : List It}
theorem Its.kp (h : Its S w v l) (hk : Kp S w w') : Its S w' v l := by
 induction h with
 | mk vl a cap h1 h2 hc _ ih =>
  refine .mk vl a cap h1 h2 (fun hl => ?_) ih
  obtain ⟨b, off, k1, k0, k2, k3⟩ := hc hl
  exact ⟨b, off, k1, k0, Nat.lt_of_lt_of_le k2 hk.1, fun i x hx => (k3 i x hx).kp (fun j => hk.cell k0 k2 j)⟩
theorem Its.bel (h : Its S w v l) (hb : Below w.heap.size w w') : Its S w' v l := h.kp (Kp.of hb)
theorem Its.mono (h : Its S w v l) (hs : ∀ b, S b → b < w.heap.size → S' b) : Its S' w v l := by
 induction h with
 | mk vl a cap h1 h2 hc _ ih =>
  refine .mk vl a cap h1 h2 (fun hl => ?_) ih
  obtain ⟨b, off, k1, k0, k2, k3⟩ := hc hl
  exact ⟨b, off, k1, hs b k0 k2, k2, k3⟩
theorem Its.nil (S : Nat → Prop) (w : World) : Its S w (.slice none 0 0) [] := .mk [] none 0 (by simp) (by unfold maxLen; omega) (fun h => by simp at h) (fun x hx => by cases hx)
theorem Its.form (h : Its S w v l) : ∃ a cap, v = .slice a l.length cap ∧ l.length ≤ cap ∧ cap ≤ maxLen := by
 cases h with
 | mk vl a cap h1 h2 hc hk => exact ⟨a, cap, by rw [List.length_map], by rw [List.length_map]; exact h1, h2⟩
theorem Its.nth {a : Option Addr} {n cap : Nat} (h : Its S w (.slice a n cap) l) (i : Nat) (hi : i < n) :
  ∃ b off x ka kc, a = some ⟨b, off, none⟩ ∧ l[i]? = some x ∧ b < w.heap.size ∧ S b ∧ IRow w b (off + i * 6) x (.slice ka x.kids.length kc) ∧ Its S w (.slice ka x.kids.length kc) x.kids := by
 generalize hv : Value.slice a n cap = v at h
 cases h with
 | mk vl a cap h1 h2 hc hk =>
  cases hv
  obtain ⟨b, off, k1, k0, k2, k3⟩ := hc (by omega)
  have hx := List.getElem?_eq_getElem hi
  have hkk := hk _ (List.getElem_mem hi)
  have hrr := k3 i _ hx
  obtain ⟨ka, kc, e, -, -⟩ := hkk.form
  rw [e] at hkk hrr
  exact ⟨b, off, vl[i].1, ka, kc, k1, by rw [List.getElem?_map, hx]; rfl, k2, k0, hrr, hkk⟩
theorem Its.len {a : Option Addr} {n cap : Nat} (h : Its S w (.slice a n cap) l) : n = l.length ∧ l.length ≤ cap ∧ cap ≤ maxLen := by
 obtain ⟨a', c', e, h1, h2⟩ := h.form
 cases e
 exact ⟨rfl, h1, h2⟩
end
abbrev IL : Type := List (It × Value)
def flatI (vl : IL) : List Value := vl.flatMap (fun x => itC x.1 x.2)
theorem flatI_snoc (vl : IL) (x : It × Value) : flatI (vl ++ [x]) = flatI vl ++ itC x.1 x.2 := by unfold flatI; simp
theorem flatI_get : ∀ (vl : IL) (i : Nat) (x : It × Value) (j : Nat) (u : Value), vl[i]? = some x → (itC x.1 x.2)[j]? = some u → (flatI vl)[i * 6 + j]? = some u
 | [], i, x, j, u, h, _ => by simp at h
 | y :: vl, 0, x, j, u, h, hj => by
  simp at h
  subst h
  have e : flatI (y :: vl) = itC y.1 y.2 ++ flatI vl := rfl
  have hl : (itC y.1 y.2).length = 6 := rfl
  have := (List.getElem?_eq_some_iff.1 hj).1
  rw [e, Nat.zero_mul, Nat.zero_add, List.getElem?_append_left (by omega)]
  exact hj
 | y :: vl, i + 1, x, j, u, h, hj => by
  have e : flatI (y :: vl) = itC y.1 y.2 ++ flatI vl := rfl
  have hl : (itC y.1 y.2).length = 6 := rfl
  rw [e, List.getElem?_append_right (by omega), hl]
  have e2 : (i + 1) * 6 + j - 6 = i * 6 + j := by omega
  rw [e2]
  exact flatI_get vl i x j u (by simpa using h) hj
def OwnI (T B : Nat) (S : Nat → Prop) (w : World) (v : Value) (l : List It) : Prop :=
 ∃ vl : IL, vl.map (·.1) = l ∧ w.ownsRow B T 6 v vl.length (flatI vl) ∧ ∀ x ∈ vl, Its (fun b => S b ∧ v.ownBlock ≠ some b) w x.2 x.1.kids
section
variable {T B : Nat} {S S' : Nat → Prop} {w w' : World} {v : Value} {l : List It}
theorem OwnI.nil (T B : Nat) (S : Nat → Prop) (w : World) : OwnI T B S w (.slice none 0 0) [] := ⟨[], rfl, World.ownsRow_nil _ _ _ _, fun x hx => by cases hx⟩
theorem OwnI.kp (h : OwnI T B S w v l) (hs : w.heap.size ≤ w'.heap.size) (hk : ∀ b, b < w.heap.size → (S b ∨ v.ownBlock = some b) → w'.heap[b]? = w.heap[b]?) : OwnI T B S w' v l := by
 obtain ⟨vl, h1, h2, h3⟩ := h
 have hlt := h2.lt
 refine ⟨vl, h1, ?_, fun x hx => (h3 x hx).kp ⟨hs, fun b hb hl => hk b hl (.inl hb.1)⟩⟩
 obtain ⟨e1, e2⟩ := h2
 refine ⟨e1, ?_⟩
 rcases e2 with hn | ⟨g, cap, cur, rfl, hb, hg, rest⟩
 · exact .inl hn
 exact .inr ⟨g, cap, cur, rfl, hb, (hk g (hlt g rfl).2 (.inr rfl)).trans hg, rest⟩
theorem OwnI.bel (h : OwnI T B S w v l) (hb : Below w.heap.size w w') : OwnI T B S w' v l := h.kp hb.size (fun b hl _ => hb.block b hl)
theorem OwnI.lt (h : OwnI T B S w v l) : ∀ k, v.ownBlock = some k → B ≤ k ∧ k < w.heap.size := by
 obtain ⟨vl, -, h2, -⟩ := h
 exact h2.lt
theorem OwnI.mono (h : OwnI T B S w v l) (hs : ∀ j, S j → j < w.heap.size → S' j) : OwnI T B S' w v l := by
 obtain ⟨vl, h1, h2, h3⟩ := h
 exact ⟨vl, h1, h2, fun x hx => (h3 x hx).mono (fun b hb hl => ⟨hs b hb.1 hl, hb.2⟩)⟩
theorem OwnI.its (h : OwnI T B S w v l) : Its (fun b => S b ∨ v.ownBlock = some b) w v l := by
 obtain ⟨vl, rfl, h2, h3⟩ := h
 have hlt := h2.lt
 have h0 := h2
 rcases h2.2 with ⟨rfl, hn⟩ | ⟨g, cap, cur, rfl, hb, hg, hnc, hcm, _⟩
 · obtain rfl : vl = [] := List.eq_nil_of_length_eq_zero hn
   exact Its.nil _ _
 refine .mk vl _ cap hnc hcm (fun _ => ⟨g, 0, rfl, .inr rfl, (hlt g rfl).2, fun i x hx => ?_⟩) (fun x hx => (h3 x hx).mono (fun b hb _ => .inl hb.1))
 have H : ∀ j u, (itC x.1 x.2)[j]? = some u → w.cell? ⟨g, 0 + i * 6 + j, none⟩ = some u := fun j u hj => by
  have hc := World.ownsRow.cells h0 (g := g) rfl (i * 6 + j) u (flatI_get vl i x j u hx hj)
  have e : (⟨g, 0, none⟩ : Addr).add (i * 6 + j) = ⟨g, 0 + i * 6 + j, none⟩ := by unfold Addr.add; split <;> simp_all
  rw [e] at hc
  exact hc
 exact ⟨H 0 _ rfl, H 1 _ rfl, H 2 _ rfl, H 3 _ rfl, H 4 _ rfl, H 5 _ rfl⟩
theorem ownI_snoc {vl : IL} {x : It} {kv : Value} {g cap n : Nat} (hnn : n = vl.length) (hsz : w.heap.size ≤ w'.heap.size)
  (h3 : ∀ y ∈ vl, Its (fun b => S b ∧ v.ownBlock ≠ some b) w y.2 y.1.kids) (hk : Its (fun b => S b ∧ v.ownBlock ≠ some b) w kv x.kids)
  (hown : w'.ownsRow B T 6 (.slice (some ⟨g, 0, none⟩) (n + 1) cap) (n + 1) (flatI vl ++ itC x kv)) (hgrow : w.grownBy w' v.ownBlock) (hat : v.ownBlock = some g ∨ g = w.heap.size) :
  OwnI T B S w' (.slice (some ⟨g, 0, none⟩) (n + 1) cap) (vl.map (·.1) ++ [x]) := by
 subst hnn
 have hkp : Kp (fun b => (S b ∧ v.ownBlock ≠ some b) ∧ b < w.heap.size) w w' := ⟨hsz, fun b hb hl => hgrow.block b hl (fun e => hb.1.2 e.symm)⟩
 have hm1 : ∀ b, (S b ∧ v.ownBlock ≠ some b) → b < w.heap.size → ((S b ∧ v.ownBlock ≠ some b) ∧ b < w.heap.size) := fun b hb hl => ⟨hb, hl⟩
 have hm2 : ∀ b, ((S b ∧ v.ownBlock ≠ some b) ∧ b < w.heap.size) → b < w'.heap.size → (S b ∧ (Value.slice (some ⟨g, 0, none⟩) (vl.length + 1) cap).ownBlock ≠ some b) := fun b hb _ => ⟨hb.1.1, fun e => by
  have e : some g = some b := e
  cases e
  rcases hat with h | h
  · exact hb.1.2 h
  have := hb.2
  omega⟩
 refine ⟨vl ++ [(x, kv)], by simp, ?_, fun y hy => ?_⟩
 · rw [flatI_snoc, List.length_append]
   exact hown
 rcases List.mem_append.1 hy with hy | hy
 · exact (((h3 y hy).mono hm1).kp hkp).mono hm2
 obtain rfl := List.mem_singleton.1 hy
 exact ((hk.mono hm1).kp hkp).mono hm2
end
structure Mv2 (b : Nat) (g : Option Nat) (w w' : World) : Prop where
 os : w'.os = w.os
 tape : w'.tape = w.tape
 output : w'.output = w.output
 size : w.heap.size ≤ w'.heap.size
 block : ∀ j, j < w.heap.size → j ≠ b → some j ≠ g → w'.heap[j]? = w.heap[j]?
abbrev RT : Nat := 70
abbrev KNT : Nat := 143
abbrev IT : Nat := 58
def knC (k : Kn) : List Value := [.string ⟨k.name.toArray⟩, .int .i64 (k.slot : Int), .bool k.set]
def flatK (l : List Kn) : List Value := l.flatMap knC
theorem flatK_snoc (l : List Kn) (k : Kn) : flatK (l ++ [k]) = flatK l ++ knC k := by unfold flatK; simp
theorem flatK_len (l : List Kn) : (flatK l).length = l.length * 3 := by
 induction l with
 | nil => rfl
 | cons k l ih =>
  have e : flatK (k :: l) = knC k ++ flatK l := rfl
  rw [e, List.length_append, ih, List.length_cons]
  show 3 + _ = _
  omega
theorem flatK_get : ∀ (l : List Kn) (i : Nat) (k : Kn) (j : Nat) (u : Value), l[i]? = some k → (knC k)[j]? = some u → (flatK l)[i * 3 + j]? = some u
 | [], i, x, j, u, h, _ => by simp at h
 | y :: vl, 0, x, j, u, h, hj => by
  simp at h
  subst h
  have e : flatK (y :: vl) = knC y ++ flatK vl := rfl
  have hl : (knC y).length = 3 := rfl
  have := (List.getElem?_eq_some_iff.1 hj).1
  rw [e, Nat.zero_mul, Nat.zero_add, List.getElem?_append_left (by omega)]
  exact hj
 | y :: vl, i + 1, x, j, u, h, hj => by
  have e : flatK (y :: vl) = knC y ++ flatK vl := rfl
  have hl : (knC y).length = 3 := rfl
  rw [e, List.getElem?_append_right (by omega), hl]
  have e2 : (i + 1) * 3 + j - 3 = i * 3 + j := by omega
  rw [e2]
  exact flatK_get vl i x j u (by simpa using h) hj
structure Rs (B b : Nat) (F G : List Bytes) (kv : Value) (fv gv : Value) (K : List Kn) (n : Nat) (w : World) : Prop where
 blk : Blk RT b #[kv, .int .i64 (n : Int), fv, gv] w
 row : w.ownsRow B KNT 3 kv K.length (flatK K)
 ne : kv.ownBlock ≠ some b
 lo : B ≤ b
 fld : Rd (fun j => j < B) strV w fv F
 glb : Rd (fun j => j < B) strV w gv G
section
variable {B b : Nat} {F G : List Bytes} {kv kv' fv gv : Value} {K K' : List Kn} {n n' : Nat} {w w' w'' : World} {g : Option Nat}
theorem Mv2.refl (b : Nat) (g : Option Nat) (w : World) : Mv2 b g w w := ⟨rfl, rfl, rfl, Nat.le_refl _, fun _ _ _ _ => rfl⟩
theorem Mv2.of_bel (h : Below w.heap.size w w') : Mv2 b g w w' := ⟨h.os, h.tape, h.output, h.size, fun j hj _ _ => h.block j hj⟩
theorem Mv2.below (h : Mv2 b g w w') (hb : B ≤ b) (hg : ∀ k, g = some k → B ≤ k) (hB : B ≤ w.heap.size) : Below B w w' :=
 ⟨h.os, h.tape, h.output, h.size, fun j hj => h.block j (by omega) (by omega) (fun e => by have := hg j e.symm; omega)⟩
def Near (w : World) (kv kv' : Value) : Prop := ∀ k, kv'.ownBlock = some k → kv.ownBlock = some k ∨ w.heap.size ≤ k
theorem Mv2.trans (h : Mv2 b kv.ownBlock w w') (hn : Near w kv kv') (k : Mv2 b kv'.ownBlock w' w'') : Mv2 b kv.ownBlock w w'' :=
 ⟨k.os.trans h.os, k.tape.trans h.tape, k.output.trans h.output, Nat.le_trans h.size k.size, fun j hj h1 h2 => (k.block j (Nat.lt_of_lt_of_le hj h.size) h1 (fun e => by
  rcases hn j e.symm with e2 | e2
  · exact h2 e2.symm
  omega)).trans (h.block j hj h1 h2)⟩
theorem Near.refl (w : World) (kv : Value) : Near w kv kv := fun k h => .inl h
theorem Near.trans {kv'' : Value} (h : Near w kv kv') (k : Near w' kv' kv'') (hs : w.heap.size ≤ w'.heap.size) : Near w kv kv'' := fun j hj => by
 rcases k j hj with e | e
 · exact h j e
 exact .inr (by omega)
theorem Rs.bel (h : Rs B b F G kv fv gv K n w) (hb : Below w.heap.size w w') : Rs B b F G kv fv gv K n w' :=
 ⟨h.blk.below hb h.blk.lt, own_below h.row hb, h.ne, h.lo, h.fld.below hb, h.glb.below hb⟩
theorem Rs.form (h : Rs B b F G kv fv gv K n w) : ∃ ka kc, kv = .slice ka K.length kc := by
 rcases h.row.2 with ⟨e, hn⟩ | ⟨g, cap, cur, e, _⟩
 · exact ⟨none, 0, by rw [e, hn]⟩
 exact ⟨_, _, e⟩
theorem Mv2.kp {S : Nat → Prop} (h : Mv2 b g w w') (hb : ¬ S b) (hg : ∀ k, g = some k → ¬ S k) : Kp S w w' :=
 ⟨h.size, fun j hj hl => h.block j hl (fun e => hb (e ▸ hj)) (fun e => hg j e.symm hj)⟩
end
end Rv
end Go.Proofs.YtmmgfifpjifjnaaGreatDoor
namespace Go.Proofs.YtmmgfifpjifjnaaGreatDoor
open Go.RowKit
namespace Rv
open Bs Sm Tr
theorem run_putS {P : Program} {w : World} {mty kt et : TypeId} {r clock : Nat} {es : Array MapEntry} (hm : P.underlying mty = some (.map kt et)) (hk : P.underlying kt = some .string) (hb : w.heap[r]? = some (.map es clock))
  (a : ByteArray) (val : Value) (hf : Instr.findNow .string (.string a) es.toList 0 = some none) :
  ∃ w', (Instr.mapUpdate mty (.map (some r)) (.string a) val).run P w = .ok () w' ∧ w'.heap[r]? = some (.map (es.push ⟨.string a, val, clock⟩) (clock + 1)) ∧ w.grownBy w' (some r) := by
 have hc : (Instr.checkKey false 10000 kt (.string a)).run P w = .ok () w := MapKept.run_checkKey (k := .string a) hk (by simp [MapKept.IsKey]) false 9999
 refine ⟨{ w with heap := w.heap.setIfInBounds r (.map (es.push ⟨.string a, val, clock⟩) (clock + 1)) }, ?_, (MapKept.heap_set hb).1, ⟨rfl, rfl, rfl, by simp, fun i _ hi => (MapKept.heap_set hb).2 i (fun e => hi (by rw [e]))⟩⟩
 simp [Instr.mapUpdate, run_underlying hm, MapKept.run_getObj_map hb, hc, MapKept.run_findKey hk hf, MapKept.run_setObj_map _ hb, Result.andThen]
def askV (z : Value) : Option (Nat × Value) → Value
 | some (_, v) => .tuple #[v, .bool true]
 | none => .tuple #[z, .bool false]
theorem run_askS {P : Program} {w : World} {mty kt et : TypeId} {r clock : Nat} {es : Array MapEntry} (hm : P.underlying mty = some (.map kt et)) (hk : P.underlying kt = some .string) (hb : w.heap[r]? = some (.map es clock))
  (z : Value) (hz : (zeroValue et).run P w = .ok z w) (a : ByteArray) (f : Option (Nat × Value)) (hf : Instr.findNow .string (.string a) es.toList 0 = some f) :
  (Instr.lookup mty (.map (some r)) (.string a) true).run P w = .ok (askV z f) w := by
 have hc : (Instr.checkKey es.isEmpty 10000 kt (.string a)).run P w = .ok () w := MapKept.run_checkKey (k := .string a) hk (by simp [MapKept.IsKey]) _ 9999
 cases f with
 | none => simp [Instr.lookup, run_underlying hm, MapKept.run_getObj_map hb, hc, MapKept.run_findKey hk hf, hz, Result.andThen, askV]
 | some p => obtain ⟨i, v⟩ := p; simp [Instr.lookup, run_underlying hm, MapKept.run_getObj_map hb, hc, MapKept.run_findKey hk hf, Result.andThen, askV]
def eS (s : ByteArray) (b : Int) (n : Nat) : MapEntry := ⟨.string s, .int .i64 b, n⟩
def esP : Array MapEntry := #[eS ⟨#[115, 101, 108, 102]⟩ 8 0, eS ⟨#[110, 105, 108]⟩ 5 1, eS ⟨#[116, 114, 117, 101]⟩ 6 2, eS ⟨#[102, 97, 108, 115, 101]⟩ 7 3]
theorem ba_beq (x y : Bytes) : ((⟨x.toArray⟩ : ByteArray) == ⟨y.toArray⟩) = (x == y) := by
 show (x.toArray == y.toArray) = _
 simp
theorem find_pseudo (s : Bytes) : ∃ f, Instr.findNow .string (.string ⟨s.toArray⟩) esP.toList 0 = some f ∧ askV (.int .i64 0) f = .tuple #[.int .i64 (pseu s), .bool (pseu s != 0)] := by
 have hs : ∀ l : Bytes, Instr.sameNow .string (.string ⟨s.toArray⟩) (.string ⟨l.toArray⟩) = some (s == l) := fun l => by
  show some ((⟨s.toArray⟩ : ByteArray) == ⟨l.toArray⟩) = _
  rw [ba_beq]
 have h1 := hs [115, 101, 108, 102]
 have h2 := hs [110, 105, 108]
 have h3 := hs [116, 114, 117, 101]
 have h4 := hs [102, 97, 108, 115, 101]
 unfold pseu
 by_cases e1 : s = [115, 101, 108, 102]
 · refine ⟨some (0, .int .i64 8), ?_, by rw [if_pos e1]; rfl⟩
   subst e1; rfl
 rw [if_neg e1]
 have b1 : (s == [115, 101, 108, 102]) = false := by simpa using e1
 by_cases e2 : s = [110, 105, 108]
 · refine ⟨some (1, .int .i64 5), ?_, by rw [if_pos e2]; rfl⟩
   subst e2; rfl
 rw [if_neg e2]
 have b2 : (s == [110, 105, 108]) = false := by simpa using e2
 by_cases e3 : s = [116, 114, 117, 101]
 · refine ⟨some (2, .int .i64 6), ?_, by rw [if_pos e3]; rfl⟩
   subst e3; rfl
 rw [if_neg e3]
 have b3 : (s == [116, 114, 117, 101]) = false := by simpa using e3
 by_cases e4 : s = [102, 97, 108, 115, 101]
 · refine ⟨some (3, .int .i64 7), ?_, by rw [if_pos e4]; rfl⟩
   subst e4; rfl
 rw [if_neg e4]
 have b4 : (s == [102, 97, 108, 115, 101]) = false := by simpa using e4
 refine ⟨none, ?_, rfl⟩
 simp only [esP, eS, Instr.findNow, h1, b1, h2, b2, h3, b3, h4, b4]
abbrev MPT : Nat := 173
theorem pseudo_laid (w : World) : ∃ X0 X1 X2 X3 X4, (Instr.makeMap MPT none).run Tryz.prog w = .ok (.map (some w.heap.size)) X0 ∧
  (Instr.mapUpdate MPT (.map (some w.heap.size)) (.string ⟨#[115, 101, 108, 102]⟩) (.int .i64 8)).run Tryz.prog X0 = .ok () X1 ∧
  (Instr.mapUpdate MPT (.map (some w.heap.size)) (.string ⟨#[110, 105, 108]⟩) (.int .i64 5)).run Tryz.prog X1 = .ok () X2 ∧
  (Instr.mapUpdate MPT (.map (some w.heap.size)) (.string ⟨#[116, 114, 117, 101]⟩) (.int .i64 6)).run Tryz.prog X2 = .ok () X3 ∧
  (Instr.mapUpdate MPT (.map (some w.heap.size)) (.string ⟨#[102, 97, 108, 115, 101]⟩) (.int .i64 7)).run Tryz.prog X3 = .ok () X4 ∧
  Below w.heap.size w X4 ∧ ∀ s : Bytes, (Instr.lookup MPT (.map (some w.heap.size)) (.string ⟨s.toArray⟩) true).run Tryz.prog X4 = .ok (.tuple #[.int .i64 (pseu s), .bool (pseu s != 0)]) X4 := by
 have tm : Tryz.prog.underlying MPT = some (.map 9 3) := by kernel_rfl
 have tk : Tryz.prog.underlying 9 = some .string := by kernel_rfl
 have hz : ∀ w, (zeroValue 3).run Tryz.prog w = .ok (.int .i64 0) w := fun w => by kernel_rfl
 have h0 : (w.alloc (.map #[] 0)).heap[w.heap.size]? = some (.map #[] 0) := (MapKept.heap_alloc w _).1
 have b0 : Below w.heap.size w (w.alloc (.map #[] 0)) := (Below.refl _ w).alloc (Nat.le_refl _) _
 obtain ⟨X1, r1, h1, g1⟩ := run_putS tm tk h0 ⟨#[115, 101, 108, 102]⟩ (.int .i64 8) rfl
 obtain ⟨X2, r2, h2, g2⟩ := run_putS tm tk h1 ⟨#[110, 105, 108]⟩ (.int .i64 5) rfl
 obtain ⟨X3, r3, h3, g3⟩ := run_putS tm tk h2 ⟨#[116, 114, 117, 101]⟩ (.int .i64 6) rfl
 obtain ⟨X4, r4, h4, g4⟩ := run_putS tm tk h3 ⟨#[102, 97, 108, 115, 101]⟩ (.int .i64 7) rfl
 have hrow : ∀ k, some w.heap.size = some k → w.heap.size ≤ k := fun k h => by cases h; exact Nat.le_refl _
 have b1 := b0.grown g1 b0.size hrow
 have b2 := b1.grown g2 b1.size hrow
 have b3 := b2.grown g3 b2.size hrow
 have b4 := b3.grown g4 b3.size hrow
 refine ⟨_, X1, X2, X3, X4, Go.run_makeMap_plain w MPT, r1, r2, r3, r4, b4, fun s => ?_⟩
 obtain ⟨f, f1, f2⟩ := find_pseudo s
 rw [run_askS tm tk h4 (.int .i64 0) (hz X4) ⟨s.toArray⟩ f f1, f2]
set_option maxRecDepth 100000 in
set_option maxHeartbeats 1600000 in
theorem pseudo_any (s : Bytes) (w : World) : Calls Tryz.prog 81 #[.string ⟨s.toArray⟩] w (Back (.tuple #[.int .i64 (pseu s), .bool (pseu s != 0)]) w) := by
 obtain ⟨X0, X1, X2, X3, X4, r0, r1, r2, r3, r4, hb, hl⟩ := pseudo_laid w
 have hl2 := hl s
 have HB := Lib.hid hb
 clear hl
 obtain ⟨p, hp⟩ : ∃ p, pseu s = p := ⟨_, rfl⟩
 obtain ⟨q, hq⟩ : ∃ q, (p != 0) = q := ⟨_, rfl⟩
 rw [hp, hq] at hl2 ⊢
 clear hp hq hb
 go_enter Tryz.func81, Tryz.ntmps81
 go_wp2_with fail
 refine bodyPost_ret (v := .tuple #[.int .i64 p, .bool q]) (by simp [results, Tryz.results81, go_sem]) rfl ?_
 exact ⟨rfl, HB.out⟩
def knV (k : Kn) : Value := .agg #[.string ⟨k.name.toArray⟩, .int .i64 (k.slot : Int), .bool k.set]
set_option maxHeartbeats 800000 in
theorem find1_any (bn : Nat) (s : Bytes) (k : Kn) (w : World) (hc : w.cell? ⟨bn, 0, none⟩ = some (.string ⟨s.toArray⟩)) :
  Calls Tryz.prog 124 #[knV k, .pointer (some ⟨bn, 0, none⟩)] w (Back (.bool (k.name == s)) w) := by
 have hlt : bn < w.heap.size := by
  rcases Nat.lt_or_ge bn w.heap.size with h | h
  · exact h
  unfold World.cell? at hc; simp [Array.getElem?_eq_none h] at hc
 have n1 : ¬ bn = w.heap.size := by omega
 have HB := Lib.hid (alloc_bel w (.cells #[.string ⟨k.name.toArray⟩, .int .i64 (k.slot : Int), .bool k.set] KNT))
 unfold knV
 go_enter Tryz.func124, Tryz.ntmps124
 go_wp2_with fail
 go_ret
 exact ⟨rfl, HB.out⟩
def RdK (w : World) (kv : Value) (K : List Kn) : Prop := ∃ a cap, kv = .slice a K.length cap ∧ K.length ≤ maxLen ∧ ∀ i k, K[i]? = some k → ∃ g, a = some ⟨g, 0, none⟩ ∧ g < w.heap.size ∧ w.cell? ⟨g, i * 3, none⟩ = some (.string ⟨k.name.toArray⟩) ∧ w.cell? ⟨g, i * 3 + 1, none⟩ = some (.int .i64 (k.slot : Int)) ∧ w.cell? ⟨g, i * 3 + 2, none⟩ = some (.bool k.set)
theorem RdK.bel {w w' : World} {kv : Value} {K : List Kn} (h : RdK w kv K) (hb : Below w.heap.size w w') : RdK w' kv K := by
 obtain ⟨a, cap, h1, h2, h3⟩ := h
 refine ⟨a, cap, h1, h2, fun i k hk => ?_⟩
 obtain ⟨g, g1, g2, g3, g4, g5⟩ := h3 i k hk
 exact ⟨g, g1, Nat.lt_of_lt_of_le g2 hb.size, (hb.cell (p := ⟨g, _, none⟩) g2).trans g3, (hb.cell (p := ⟨g, _, none⟩) g2).trans g4, (hb.cell (p := ⟨g, _, none⟩) g2).trans g5⟩
theorem Rs.rdk {B b : Nat} {F G : List Bytes} {kv fv gv : Value} {K : List Kn} {n : Nat} {w : World} (h : Rs B b F G kv fv gv K n w) : RdK w kv K := by
 have h0 := h.row
 have hlt := h.row.lt
 rcases h.row.2 with ⟨e, hn⟩ | ⟨g, cap, cur, e, hg, hh, hnc, hcm, _⟩
 · refine ⟨none, 0, by rw [e, hn], by unfold maxLen; omega, fun i k hk => ?_⟩
   have := (List.getElem?_eq_some_iff.1 hk).1
   omega
 refine ⟨_, cap, e, by omega, fun i k hk => ⟨g, rfl, (hlt g (by rw [e]; rfl)).2, ?_⟩⟩
 have H : ∀ j u, (knC k)[j]? = some u → w.cell? ⟨g, i * 3 + j, none⟩ = some u := fun j u hj => by
  have hc := World.ownsRow.cells h0 (g := g) (by rw [e]; rfl) (i * 3 + j) u (flatK_get K i k j u hk hj)
  have e : (⟨g, 0, none⟩ : Addr).add (i * 3 + j) = ⟨g, i * 3 + j, none⟩ := by unfold Addr.add; split <;> simp_all
  rw [e] at hc
  exact hc
 exact ⟨H 0 _ rfl, H 1 _ rfl, H 2 _ rfl⟩
def At (K : List Kn) (s : Bytes) (i : Int) : Prop := (i = -1 ∧ findK K s = none) ∨ ∃ (j : Nat) (k : Kn), i = (j : Int) ∧ K[j]? = some k ∧ findK K s = some k
theorem ent_find : Tr.Ent 124 := enters_of Tryz.func124 (by kernel_rfl) rfl
set_option maxRecDepth 100000 in
set_option maxHeartbeats 1600000 in
theorem idxK_any (bn : Nat) (s : Bytes) (kv : Value) (K : List Kn) (w : World) (hl : RdK w kv K) (hbn : bn < w.heap.size) (hc : w.cell? ⟨bn, 0, none⟩ = some (.string ⟨s.toArray⟩)) :
  Calls Tryz.prog 123 #[kv, .func (.func 124) #[] #[.pointer (some ⟨bn, 0, none⟩)]] w (fun e w' => Below w.heap.size w w' ∧ ∃ i : Int, e = .returned (.int .i64 i) ∧ At K s i) := by
 have hl0 := hl
 obtain ⟨a, c, rfl, hm, hcells⟩ := hl
 obtain ⟨n, hn⟩ : ∃ n, K.length = n := ⟨_, rfl⟩
 have HN := Lib.hid hn
 unfold maxLen at hm
 rw [hn] at hm hl0 ⊢
 have HL := Lib.hid hl0
 have HF := Lib.hid (fun k w' (hb : Below w.heap.size w w') => find1_any bn s k w' ((hb.cell (p := ⟨bn, 0, none⟩) hbn).trans hc))
 have hen := ent_find
 unfold Tr.Ent at hen
 unfold knV at HF
 clear hl0 hn hcells hc
 go_enter Tryz.func123, Tryz.ntmps123
 go_wp2_with fail
 go_loopw [8, 5] (fun y _ wr => ∃ k : Nat, y = .int .i64 (k : Int) ∧ k ≤ n ∧ Below w.heap.size w wr ∧ Hid (∀ i x, i < k → K[i]? = some x → (x.name == s) = false)) (fun y _ _ => n - (intOf y).toNat)
 case atStart => exact ⟨0, rfl, Nat.zero_le _, Below.refl _ _, Lib.hid (fun i s hi => by omega)⟩
 obtain ⟨k, rfl, hk, hbr, hp⟩ := hrel
 by_cases hkn : k < n
 · have hdec : decide ((k : Int) < (n : Int)) = true := by simpa using hkn
   have hkw : IntKind.i64.wrap ((k : Int) + 1) = (k : Int) + 1 := IntWalk.i64_in _ (by omega)
   obtain ⟨x, hx⟩ : ∃ x, K[k]? = some x := ⟨_, List.getElem?_eq_getElem (by have := HN.out; omega)⟩
   obtain ⟨a', c', e, -, hcc⟩ := HL.out.bel hbr
   rw [HN.out] at e
   cases e
   obtain ⟨gb, rfl, hgb, x0, x1, x2⟩ := hcc k x hx
   clear hcc
   have HX := Lib.hid hx
   clear hx
   go_wp2_with fail
   refine (HF.out x wr hbr).mono ?_; rintro e w1 ⟨rfl, hb1⟩
   have hb2 := hbr.trans (hb1.mono hbr.size)
   cases hpx : x.name == s with
   | true =>
    have HAT : Hid (At K s (k : Int)) := Lib.hid (.inr ⟨k, x, rfl, HX.out, by
     unfold findK
     rw [List.find?_eq_some_iff_getElem]
     have hlt := (List.getElem?_eq_some_iff.1 HX.out)
     obtain ⟨h1, h2⟩ := hlt
     refine ⟨hpx, k, h1, h2, fun j hj => ?_⟩
     have := hp.out j K[j] hj (List.getElem?_eq_getElem (by omega))
     simp [this]⟩)
    clear hp
    go_wp2_with fail
    go_ret
    exact ⟨hb2, _, rfl, HAT.out⟩
   | false =>
    have HP : Hid (∀ i y, i < k + 1 → K[i]? = some y → (y.name == s) = false) := Lib.hid (fun i y hi hs => by
     by_cases hik : i < k
     · exact hp.out i y hik hs
     obtain rfl : i = k := by omega
     rw [HX.out] at hs; cases hs; exact hpx)
    clear hp
    go_wp2_with fail
    exact ⟨⟨k + 1, by simp, by omega, hb2, HP⟩, by simp only [intOf]; omega⟩
 obtain rfl : k = n := by omega
 have hdec : decide ((k : Int) < (k : Int)) = false := by simp
 have HA : Hid (At K s (-1)) := Lib.hid (.inl ⟨rfl, by
  unfold findK
  rw [List.find?_eq_none]
  intro y hy
  obtain ⟨i, hi⟩ := List.getElem?_of_mem hy
  have := hp.out i y (by have := (List.getElem?_eq_some_iff.1 hi).1; rw [HN.out] at this; exact this) hi
  simp [this]⟩)
 clear hp
 go_wp2_with fail
 go_ret
 exact ⟨hbr, _, rfl, HA.out⟩
end Rv
end Go.Proofs.YtmmgfifpjifjnaaGreatDoor
namespace Go.Proofs.YtmmgfifpjifjnaaGreatDoor
open Go.RowKit
namespace Rv
open Bs Sm Tr
section
variable {T k : Nat} {a0 a1 a2 v0 v1 v2 : Value} {w w0 : World} {B : Nat}
theorem blk_set3 (h : Blk T k #[a0, a1, a2] w) : Blk T k #[v0, v1, v2] (((w.setCell ⟨k, 0, none⟩ v0).setCell ⟨k, 1, none⟩ v1).setCell ⟨k, 2, none⟩ v2) := ((h.set_ 0 v0 _ rfl).set_ 1 v1 _ rfl).set_ 2 v2 _ rfl
theorem bel_set3 (h : Below B w0 w) (hk : B ≤ k) : Below B w0 (((w.setCell ⟨k, 0, none⟩ v0).setCell ⟨k, 1, none⟩ v1).setCell ⟨k, 2, none⟩ v2) := ((h.setCell (p := ⟨k, 0, none⟩) hk v0).setCell (p := ⟨k, 1, none⟩) hk v1).setCell (p := ⟨k, 2, none⟩) hk v2
end
def knO : Option Kn → Value
 | some k => knV k
 | none => .agg #[.string ⟨#[]⟩, .int .i64 0, .bool false]
section
variable {B b : Nat} {F G : List Bytes} {kv fv gv : Value} {K : List Kn} {n : Nat} {w : World}
set_option maxRecDepth 100000 in
set_option maxHeartbeats 1600000 in
theorem find_any (s : Bytes) (h : Rs B b F G kv fv gv K n w) :
  Calls Tryz.prog 79 #[.pointer (some ⟨b, 0, none⟩), .string ⟨s.toArray⟩] w (Back (.tuple #[knO (findK K s), .bool (findK K s).isSome]) w) := by
 have hlt := h.blk.lt
 have hbA := alloc_bel w (.cells #[.string ⟨s.toArray⟩] 9)
 have hKA := Blk.made (T := 9) (cs := #[.string ⟨s.toArray⟩]) w
 have hzA : (w.alloc (.cells #[.string ⟨s.toArray⟩] 9)).heap.size = w.heap.size + 1 := by simp
 obtain ⟨W1, halA⟩ : ∃ W, w.alloc (.cells #[.string ⟨s.toArray⟩] 9) = W := ⟨_, rfl⟩
 rw [halA] at hbA hKA hzA
 have hbB := hbA.trans ((alloc_bel W1 (.cells #[.string ⟨#[]⟩, .int .i64 0, .bool false] KNT)).mono (by omega))
 have hKB := Blk.made (T := KNT) (cs := #[.string ⟨#[]⟩, .int .i64 0, .bool false]) W1
 have hKA := hKA.alloc (.cells #[.string ⟨#[]⟩, .int .i64 0, .bool false] KNT)
 obtain ⟨W2, halB⟩ : ∃ W, W1.alloc (.cells #[.string ⟨#[]⟩, .int .i64 0, .bool false] KNT) = W := ⟨_, rfl⟩
 rw [halB] at hbB hKA hKB
 rw [hzA] at hKB
 have h2 := h.bel hbB
 have HI := Lib.hid (idxK_any w.heap.size s kv K W2 h2.rdk hKA.lt (hKA.c 0 _ rfl))
 obtain ⟨ka, kc, rfl⟩ := h.form
 have c0 := h2.blk.c 0 _ rfl
 have HS := Lib.hid h2
 have HKB := Lib.hid hKB
 have HBB := Lib.hid hbB
 obtain ⟨R, hR⟩ : ∃ R, findK K s = R := ⟨_, rfl⟩
 have HR := Lib.hid hR
 rw [hR]
 clear h hbA hKA hbB hKB h2 hR
 go_enter Tryz.func79, Tryz.ntmps79
 go_wp2_with fail
 refine HI.out.mono ?_; rintro e w3 ⟨hb3, i, rfl, hi⟩
 have hs3 := HS.out.bel hb3
 have hk3 := HKB.out.below hb3 HKB.out.lt
 have hbw := HBB.out.trans (hb3.mono HBB.out.size)
 clear c0
 have e0 := hk3.c 0 _ rfl
 have e1 := hk3.c 1 _ rfl
 have e2 := hk3.c 2 _ rfl
 have ef := hk3.fz
 rcases hi with ⟨rfl, hn⟩ | ⟨j, k, rfl, hj, hk⟩
 · rw [HR.out] at hn
   subst hn
   have HBW := Lib.hid hbw
   have HK3 := Lib.hid hk3
   clear hs3 hbw hk3
   go_wp2_with fail
   have hb6 := bel_set3 (k := w.heap.size + 1) (v0 := .string ⟨#[]⟩) (v1 := .int .i64 0) (v2 := .bool false) HBW.out (show w.heap.size ≤ w.heap.size + 1 by omega)
   have hk6 := blk_set3 (v0 := .string ⟨#[]⟩) (v1 := .int .i64 0) (v2 := .bool false) HK3.out
   obtain ⟨W6, hW6⟩ : ∃ W, ((w3.setCell ⟨w.heap.size + 1, 0, none⟩ (.string ⟨#[]⟩)).setCell ⟨w.heap.size + 1, 1, none⟩ (.int .i64 0)).setCell ⟨w.heap.size + 1, 2, none⟩ (.bool false) = W := ⟨_, rfl⟩
   rw [hW6] at hb6 hk6 ⊢
   have z0 := hk6.c 0 _ rfl
   have z1 := hk6.c 1 _ rfl
   have z2 := hk6.c 2 _ rfl
   refine bodyPost_ret (v := .tuple #[knO (none), .bool (none).isSome]) (by simp [results, Tryz.results79, go_sem, z0, z1, z2, knO, knV]) rfl ⟨rfl, hb6⟩
 rw [HR.out] at hk
 subst hk
 have hd : decide ((j : Int) < 0) = false := decide_eq_false (by omega)
 obtain ⟨a', c', e, hm, hcc⟩ := hs3.rdk
 cases e
 obtain ⟨g, rfl, hg, x0, x1, x2⟩ := hcc j k hj
 have hjl := (List.getElem?_eq_some_iff.1 hj).1
 have c0 := hs3.blk.c 0 _ rfl
 have HBW := Lib.hid hbw
 have HK3 := Lib.hid hk3
 clear hs3 hbw hk3 hcc
 go_wp2_with fail
 have hb6 := bel_set3 (k := w.heap.size + 1) (v0 := .string ⟨k.name.toArray⟩) (v1 := .int .i64 (k.slot : Int)) (v2 := .bool k.set) HBW.out (show w.heap.size ≤ w.heap.size + 1 by omega)
 have hk6 := blk_set3 (v0 := .string ⟨k.name.toArray⟩) (v1 := .int .i64 (k.slot : Int)) (v2 := .bool k.set) HK3.out
 obtain ⟨W6, hW6⟩ : ∃ W, ((w3.setCell ⟨w.heap.size + 1, 0, none⟩ (.string ⟨k.name.toArray⟩)).setCell ⟨w.heap.size + 1, 1, none⟩ (.int .i64 (k.slot : Int))).setCell ⟨w.heap.size + 1, 2, none⟩ (.bool k.set) = W := ⟨_, rfl⟩
 rw [hW6] at hb6 hk6 ⊢
 have z0 := hk6.c 0 _ rfl
 have z1 := hk6.c 1 _ rfl
 have z2 := hk6.c 2 _ rfl
 refine bodyPost_ret (v := .tuple #[knO (some k), .bool (some k).isSome]) (by simp [results, Tryz.results79, go_sem, z0, z1, z2, knO, knV]) rfl ⟨rfl, hb6⟩
end
set_option maxRecDepth 100000 in
set_option maxHeartbeats 1600000 in
theorem idxS2_any {S : Nat → Prop} (s : Bytes) (v : Value) (l : List Bytes) (w : World) (hl : Rd S strV w v l) :
  Calls Tryz.prog 144 #[v, .string ⟨s.toArray⟩] w (fun e w' => w = w' ∧ ∃ i : Int, e = .returned (.int .i64 i) ∧ (decide (0 ≤ i) = decide (s ∈ l))) := by
 obtain ⟨a, c, rfl, hc, hm⟩ := hl.form
 obtain ⟨n, hn⟩ : ∃ n, l.length = n := ⟨_, rfl⟩
 have HN := Lib.hid hn
 have hn2 : n ≤ maxLen := by omega
 unfold maxLen at hn2
 rw [hn] at hl ⊢
 have HL := Lib.hid hl
 clear hl hn
 go_enter Tryz.func144, Tryz.ntmps144
 go_wp2_with fail
 go_loopw [8, 5] (fun y _ wr => ∃ k : Nat, y = .int .i64 (k : Int) ∧ k ≤ n ∧ w = wr ∧ Hid (∀ i x, i < k → l[i]? = some x → ¬ s = x)) (fun y _ _ => n - (intOf y).toNat)
 case atStart => exact ⟨0, rfl, Nat.zero_le _, rfl, Lib.hid (fun i s hi => by omega)⟩
 obtain ⟨k, rfl, hk, rfl, hp⟩ := hrel
 by_cases hkn : k < n
 · have hdec : decide ((k : Int) < (n : Int)) = true := by simpa using hkn
   have hkw : IntKind.i64.wrap ((k : Int) + 1) = (k : Int) + 1 := IntWalk.i64_in _ (by omega)
   obtain ⟨gb, off, x, rfl, hx, hgb, hcx⟩ := HL.out.at_ k hkn
   have HX := Lib.hid hx
   clear hx
   unfold strV at hcx
   by_cases hpx : s = x
   · have HA : Hid (s ∈ l) := Lib.hid (by rw [hpx]; exact List.mem_of_getElem? HX.out)
     have hb1 : (s == x) = true := by simpa using hpx
     clear hp
     go_wp2_with fail
     go_ret
     exact ⟨rfl, _, rfl, by rw [decide_eq_true HA.out]; simp⟩
   have HP : Hid (∀ i y, i < k + 1 → l[i]? = some y → ¬ s = y) := Lib.hid (fun i y hi hs => by
    by_cases hik : i < k
    · exact hp.out i y hik hs
    obtain rfl : i = k := by omega
    rw [HX.out] at hs; cases hs; exact hpx)
   have hb1 : (s == x) = false := by simpa using hpx
   clear hp hpx
   go_wp2_with fail
   exact ⟨⟨k + 1, by simp, by omega, trivial, HP⟩, by simp only [intOf]; omega⟩
 obtain rfl : k = n := by omega
 have hdec : decide ((k : Int) < (k : Int)) = false := by simp
 have HA : Hid (¬ s ∈ l) := Lib.hid (fun hy => by
  obtain ⟨i, hi⟩ := List.getElem?_of_mem hy
  exact hp.out i s (by have := (List.getElem?_eq_some_iff.1 hi).1; rw [HN.out] at this; exact this) hi rfl)
 clear hp
 go_wp2_with fail
 go_ret
 exact ⟨rfl, _, rfl, by rw [decide_eq_false HA.out]; simp⟩
theorem contains_any {S : Nat → Prop} (s : Bytes) (v : Value) (l : List Bytes) (w : World) (hl : Rd S strV w v l) :
  Calls Tryz.prog 126 #[v, .string ⟨s.toArray⟩] w (Done (.bool (decide (s ∈ l))) w) := by
 have H := Lib.hid (idxS2_any s v l w hl)
 obtain ⟨a, c, rfl, hc, hm⟩ := hl.form
 obtain ⟨q, hq⟩ : ∃ q, decide (s ∈ l) = q := ⟨_, rfl⟩
 rw [hq] at H ⊢
 clear hq hl
 go_enter Tryz.func126, Tryz.ntmps126
 go_wp2_with fail
 refine H.out.mono ?_; rintro e w1 ⟨rfl, i, rfl, hi⟩
 go_wp2_with fail
 go_ret
 exact ⟨rfl, rfl⟩
end Rv
end Go.Proofs.YtmmgfifpjifjnaaGreatDoor
namespace Go.Proofs.YtmmgfifpjifjnaaGreatDoor
open Go.RowKit Go.Shelf
namespace Rv
open Bs Sm Tr
attribute [local go_sem] Oper.semAt_some
def upto {α : Type} (f : Nat → α) (k : Nat) : List α := (List.range k).map f
theorem upto_succ {α : Type} (f : Nat → α) (k : Nat) : upto f (k + 1) = upto f k ++ [f k] := by simp [upto, List.range_succ]
theorem upto_length {α : Type} (f : Nat → α) (k : Nat) : (upto f k).length = k := by simp [upto]
def bk (zs : List Bytes) (j : Nat) : Nat × Bytes := (zs.length - 1 - j, zs.getD (zs.length - 1 - j) [])
theorem fieldF_none : ∀ (l : List Bytes) (s : Bytes), (∀ x ∈ l, x ≠ s) → fieldF l s = -1
 | [], s, _ => rfl
 | x :: l, s, h => by
  unfold fieldF
  rw [fieldF_none l s (fun y hy => h y (List.mem_cons_of_mem _ hy)), if_neg (by omega), if_neg (h x (List.mem_cons_self ..))]
theorem fieldF_at : ∀ (l : List Bytes) (s : Bytes) (i : Nat), l[i]? = some s → (∀ j x, i < j → l[j]? = some x → x ≠ s) → fieldF l s = (i : Int)
 | [], s, i, h, _ => by simp at h
 | x :: l, s, 0, h, hn => by
  have e : x = s := by simpa using h
  unfold fieldF
  rw [fieldF_none l s (fun y hy => by
   obtain ⟨j, hj⟩ := List.getElem?_of_mem hy
   exact hn (j + 1) y (by omega) (by simpa using hj)), if_neg (by omega), if_pos e]
  rfl
 | x :: l, s, i + 1, h, hn => by
  have := fieldF_at l s i (by simpa using h) (fun j y hj hy => hn (j + 1) y (by omega) (by simpa using hy))
  unfold fieldF
  rw [this, if_pos (by omega)]
  omega
set_option maxRecDepth 100000 in
set_option maxHeartbeats 2000000 in
theorem back1_in (F : Fence) (n : Nat) (h7 : F.fn 143) (hro : F.round = none) (hn : 1 ≤ n) (l Bx n₀ : Nat) (sv : Value) (zs : List Bytes) (hB0 : Bx < n₀) (J Jx : List (Nat × Bytes) → World → Prop)
  (hY : ∀ pre (x : Nat × Bytes) W, J pre W → pre.length < zs.length → YieldAt F (n - 1) Tryz.prog l #[.int .i64 (x.1 : Int), .string ⟨x.2.toArray⟩] W fun e W' =>
   (e = .returned (.bool true) ∧ J (pre ++ [x]) W' ∧ Below n₀ W W') ∨ (e = .returned (.bool false) ∧ Jx (pre ++ [x]) W'))
  (W : World) (hBs : W.cell? ⟨Bx, 0, none⟩ = some sv) (hR : Rd (fun j => j < n₀) strV W sv zs) (h0 : J [] W) :
  CallsIn F n Tryz.prog 143 #[.func (.yield l) #[] #[], .pointer (some ⟨Bx, 0, none⟩)] W fun e W' => (∃ v, e = .returned v) ∧
   ((∃ ys, ys = upto (bk zs) zs.length ∧ J ys W') ∨ (∃ pre, (∃ k, k ≤ zs.length ∧ pre = upto (bk zs) k) ∧ Jx pre W')) := by
 obtain ⟨a, cap, rfl, hlc, hcm⟩ := hR.form
 obtain ⟨len, hlen⟩ : ∃ n, zs.length = n := ⟨_, rfl⟩
 have HLEN := Lib.hid hlen
 unfold maxLen at hcm
 rw [hlen] at hR hBs hY hlc ⊢
 have HR := Lib.hid hR
 clear hR hlen
 refine callsIn_of_wp Tryz.func143 rfl h7 ?_ hro
 simp only [Tryz.ntmps143, List.size_toArray, List.length_cons, List.length_nil, Nat.reduceAdd, Nat.reduceSub, Array.replicate_succ, Array.replicate_zero, List.push_toArray, List.append_toArray, List.nil_append, List.cons_append]
 gi_wp2
 gi_loopw [3] (fun i wr => ∃ m : Int, i = .int .i64 m ∧ -1 ≤ m ∧ m < (len : Int) ∧ J (upto (bk zs) (len - (m + 1).toNat)) wr ∧ Below n₀ W wr)
  (fun i _ => (intOf i + 1).toNat)
 case atStart => exact ⟨(len : Int) - 1, rfl, by omega, by omega, by rw [show len - ((len : Int) - 1 + 1).toNat = 0 by omega]; exact h0, Below.refl _ _⟩
 obtain ⟨m, rfl, hm1, hm2, hJs, hnx⟩ := hrel
 have hbc := (hnx.cell (p := ⟨Bx, 0, none⟩) hB0).trans hBs
 by_cases h0m : 0 ≤ m
 · obtain ⟨q, rfl⟩ : ∃ q : Nat, m = (q : Int) := ⟨m.toNat, by omega⟩
   have hR3 : Rd (fun j => j < n₀) strV wr (.slice a len cap) zs := HR.out.kp (Kp.lt hnx)
   have hd : decide ((0 : Int) ≤ (q : Int)) = true := decide_eq_true (by omega)
   obtain ⟨gb, off, x, rfl, hx, hgb, hcx⟩ := hR3.at_ q (by omega)
   unfold strV at hcx
   obtain ⟨fn, tmps, assign, body, hy, hRo⟩ := hY _ (q, x) wr hJs (by rw [upto_length]; omega)
   dsimp only at hy
   have hkw : IntKind.i64.wrap ((q : Int) - 1) = (q : Int) - 1 := IntWalk.i64_in _ (by omega)
   have hbk : bk zs (len - ((q : Int) + 1).toNat) = (q, x) := by
    unfold bk
    have e : zs.length - 1 - (len - ((q : Int) + 1).toNat) = q := by rw [HLEN.out]; omega
    rw [e, List.getD_eq_getElem?_getD, hx]
    rfl
   have hup : upto (bk zs) (len - ((q : Int) + 1).toNat) ++ [(q, x)] = upto (bk zs) (len - ((q : Int) + 1).toNat + 1) := by rw [upto_succ, hbk]
   rw [hup] at hRo
   have hRO := Lib.hid hRo
   clear hRo hx hJs hbk hup hR3
   gi_wp2
   refine hRO.out.mono ?_
   rintro e W3 (⟨rfl, hJ3, hk3⟩ | ⟨rfl, hJx3⟩)
   · have HN := Lib.hid (hnx.trans hk3)
     have HJ := Lib.hid hJ3
     clear hJ3 hk3 hnx
     gi_wp2
     exact ⟨⟨(q : Int) - 1, rfl, by omega, by omega, by rw [show len - ((q : Int) - 1 + 1).toNat = len - ((q : Int) + 1).toNat + 1 by omega]; exact HJ.out, HN.out⟩, by simp only [intOf]; omega⟩
   have HJ := Lib.hid hJx3
   clear hJx3
   gi_wp2
   refine bodyPost_ret (results_none rfl _ _ _) rfl ?_
   exact ⟨⟨_, rfl⟩, .inr ⟨_, ⟨len - ((q : Int) + 1).toNat + 1, by omega, rfl⟩, HJ.out⟩⟩
 obtain rfl : m = -1 := by omega
 rw [show len - ((-1 : Int) + 1).toNat = len by omega] at hJs
 have HJ := Lib.hid hJs
 clear hJs
 gi_wp2
 go_end0
 exact ⟨⟨_, rfl⟩, .inl HJ.out⟩
set_option maxHeartbeats 1000000 in
theorem back_in (F : Fence) (n : Nat) (h5 : F.fn 125) (hro : F.round = none) (a : Option Addr) (len cap : Nat) (w : World) :
  CallsIn F n Tryz.prog 125 #[.slice a len cap] w fun e w' => e = .returned (.func (.func 143) #[] #[.pointer (some ⟨w.heap.size, 0, none⟩)]) ∧ w' = w.alloc (.cells #[.slice a len cap] 22) := by
 refine callsIn_of_wp Tryz.func125 rfl h5 ?_ hro
 simp only [Tryz.ntmps125, List.size_toArray, List.length_cons, List.length_nil, Nat.reduceAdd, Nat.reduceSub, Array.replicate_succ, Array.replicate_zero, List.push_toArray, List.append_toArray, List.nil_append, List.cons_append]
 gi_wp2
 go_ret
 exact ⟨rfl, rfl⟩
theorem back_stops (F : Fence) (n : Nat) (h7 : F.fn 143) (hro : F.round = none) (hn : 1 ≤ n) (Bx : Nat) (sv : Value) (zs : List Bytes) (w : World) (hBx : Bx < w.heap.size)
  (hc : w.cell? ⟨Bx, 0, none⟩ = some sv) (hI : Rd (fun j => j < w.heap.size) strV w sv zs) :
  SeqStopsK F n Tryz.prog 143 #[.pointer (some ⟨Bx, 0, none⟩)] (fun x : Nat × Bytes => #[Value.int .i64 (x.1 : Int), .string ⟨x.2.toArray⟩]) (Below w.heap.size) (fun ys => ys = upto (bk zs) zs.length)
   (fun pre => ∃ k, k ≤ zs.length ∧ pre = upto (bk zs) k) zs.length w := fun l J Jx W hW _ _ hY h0 =>
 back1_in F n h7 hro hn l Bx w.heap.size sv zs hBx J Jx hY W ((hW.cell (p := ⟨Bx, 0, none⟩) hBx).trans hc) (hI.kp (Kp.lt hW)) h0
set_option maxRecDepth 100000 in
set_option maxHeartbeats 2000000 in
theorem field_in (F : Fence) (n : Nat) (h4 : F.fn 80) (h6 : F.fn 125) (h8 : F.fn 143) (hro : F.round = none) (hn : 3 ≤ n) (b : Nat) (c0 c1 c3 : Value) (a : Option Addr) (len cap : Nat) (zs : List Bytes) (s : Bytes) (w : World) (hb : Blk RT b #[c0, c1, .slice a len cap, c3] w) (hI : Rd (fun _ => True) strV w (.slice a len cap) zs) :
  CallsIn F n Tryz.prog 80 #[.pointer (some ⟨b, 0, none⟩), .string ⟨s.toArray⟩] w fun e W' => e = .returned (.int .i64 (fieldF zs s)) ∧ Below w.heap.size w W' := by
 have h1 : 1 ≤ n := by omega
 have hbl := hb.lt
 have hbA := alloc_bel w (.cells #[.string ⟨s.toArray⟩] 9)
 have hKA := Blk.made (T := 9) (cs := #[.string ⟨s.toArray⟩]) w
 have hzA : (w.alloc (.cells #[.string ⟨s.toArray⟩] 9)).heap.size = w.heap.size + 1 := by simp
 obtain ⟨W1, halA⟩ : ∃ W, w.alloc (.cells #[.string ⟨s.toArray⟩] 9) = W := ⟨_, rfl⟩
 rw [halA] at hbA hKA hzA
 have hbB := hbA.trans ((alloc_bel W1 (.cells #[.int .i64 0] 3)).mono (by omega))
 have hKB := Blk.made (T := 3) (cs := #[.int .i64 0]) W1
 have hKA := hKA.alloc (.cells #[.int .i64 0] 3)
 have hzB : (W1.alloc (.cells #[.int .i64 0] 3)).heap.size = W1.heap.size + 1 := by simp
 obtain ⟨W2, halB⟩ : ∃ W, W1.alloc (.cells #[.int .i64 0] 3) = W := ⟨_, rfl⟩
 rw [halB] at hbB hKA hKB hzB
 rw [hzA] at hKB hzB
 have hbb := hb.below hbB hb.lt
 have c2 := hbb.c 2 _ rfl
 refine callsIn_of_wp_marks Tryz.func80 rfl h4 ?_ hro
 simp only [Tryz.ntmps80, List.size_toArray, List.length_cons, List.length_nil, Nat.reduceAdd, Nat.reduceSub, Array.replicate_succ, Array.replicate_zero, List.push_toArray, List.append_toArray, List.nil_append, List.cons_append]
 gi_wp2_with (gi_at_call 125; refine (back_in F (n - 1) h6 hro _ _ _ _).mono ?_; rintro e w' ⟨rfl, rfl⟩)
 have hbC := hbB.trans ((alloc_bel W2 (.cells #[.slice a len cap] 22)).mono (by omega))
 have hKC := Blk.made (T := 22) (cs := #[.slice a len cap]) W2
 have hKA := hKA.alloc (.cells #[.slice a len cap] 22)
 have hKB := hKB.alloc (.cells #[.slice a len cap] 22)
 have hzC : (W2.alloc (.cells #[.slice a len cap] 22)).heap.size = W2.heap.size + 1 := by simp
 obtain ⟨W3, halC⟩ : ∃ W, W2.alloc (.cells #[.slice a len cap] 22) = W := ⟨_, rfl⟩
 rw [halC] at hbC hKA hKB hKC hzC ⊢
 rw [hzB] at hKC hzC
 have hI3 : Rd (fun j => j < W3.heap.size) strV W3 (.slice a len cap) zs := (hI.kp (Kp.of hbC)).mono (fun j _ hj => hj)
 clear hbA hbB hbb c2 halA halB halC hb
 refine wpIn_rangeFunc_ownG hro h1 (gf := 143) (lb := #[.pointer (some ⟨w.heap.size + 1 + 1, 0, none⟩)]) rfl h8 (enters_of Tryz.func143 (by kernel_rfl) rfl)
  (back_stops F (n - 1) h8 hro (by omega) (w.heap.size + 1 + 1) _ zs W3 hKC.lt (hKC.c 0 _ rfl) hI3) belowK_t (belowK_b (Nat.le_refl _)) (Below.refl _ _) (fun _ => rfl)
  (fun pre W => ((∀ p ∈ pre, ¬ p.2 = s) ∧ (W.cell? ⟨w.heap.size, 0, none⟩ = some (.string ⟨s.toArray⟩)) ∧ W.cell? ⟨w.heap.size + 1, 0, none⟩ = some (.int .i64 0) ∧ W.frozen? ⟨w.heap.size + 1, 0, none⟩ = false) ∧ Below w.heap.size w W)
  (fun c pre W => (c = .ret ∧ ∃ ini last, pre = ini ++ [last] ∧ (∀ p ∈ ini, ¬ p.2 = s) ∧ last.2 = s ∧ W.cell? ⟨w.heap.size + 1, 0, none⟩ = some (.int .i64 (last.1 : Int))) ∧ Below w.heap.size w W)
  (OwnFrom.and (Own.from (fun s A B row hs hg hr => ⟨hs.1, cell_kept hs.2.1 hg hr, cell_kept hs.2.2.1 hg hr, (frozen_kept hs.2.2.1 hg hr).trans hs.2.2.2⟩) _) (ownFrom_below (Nat.le_refl _) (by omega)))
  (fun c => OwnFrom.and (Own.from (fun s A B row hs hg hr => by obtain ⟨hc, ini, last, e1, e2, e3, e4⟩ := hs; exact ⟨hc, ini, last, e1, e2, e3, cell_kept e4 hg hr⟩) _) (ownFrom_below (Nat.le_refl _) (by omega)))
  ⟨⟨by simp, hKA.c 0 _ rfl, hKB.c 0 _ rfl, hKB.fz 0⟩, hbC⟩
  (fun x => { tmps := #[.pointer (some ⟨b, 0, none⟩), .string ⟨s.toArray⟩, undef, .pointer (some ⟨w.heap.size, 0, none⟩), .pointer (some ⟨w.heap.size + 1, 0, none⟩), .int .i64 (x.1 : Int), .string ⟨x.2.toArray⟩, .pointer (some ⟨b, 0, none⟩), .pointer (some ⟨b, 0, none⟩), .pointer (some ⟨b, 2, none⟩), .slice a len cap, .func (.func 143) #[] #[.pointer (some ⟨w.heap.size + 1 + 1, 0, none⟩)], .int .i64 (x.1 : Int), .string ⟨x.2.toArray⟩, undef, undef, undef, undef], defers := [] }) ?assign ?body ?done ?stop
 case assign =>
  intro l x W K hK
  gi_wp2
  exact hK
 case body =>
  rintro l pre x W ⟨⟨hp, hcn, hcr, hfr⟩, hB⟩ _
  by_cases hx : x.2 = s
  · have hb1 : (x.2 == s) = true := by simpa using hx
    have HX := Lib.hid hx
    have HP := Lib.hid hp
    clear hx hp
    gi_wp2
    exact ⟨(KeepsOthers.setCell _ _ _).from _, ⟨rfl, pre, x, rfl, HP.out, HX.out, World.cell?_setCell_same' _ _ _ (by rw [hcr]; rfl)⟩, hB.setCell (p := ⟨w.heap.size + 1, 0, none⟩) (by show w.heap.size ≤ w.heap.size + 1; omega) _⟩
  have hb1 : (x.2 == s) = false := by simpa using hx
  have HX := Lib.hid hx
  have HP := Lib.hid hp
  clear hx hp
  gi_wp2
  exact ⟨KeepsFrom.refl _ _, Below.refl _ _, ⟨fun p hp' => (List.mem_append.1 hp').elim (HP.out p) (fun e => by simp at e; subst e; exact HX.out), hcn, hcr, hfr⟩, hB⟩
 case done =>
  rintro D ys W hD rfl ⟨⟨hne, hcn, hcr, hfr⟩, hB⟩ hK
  have hfin : fieldF zs s = -1 := fieldF_none _ _ (fun x hx => by
   obtain ⟨i, hi⟩ := List.getElem?_of_mem hx
   have hil := (List.getElem?_eq_some_iff.1 hi).1
   have := hne (bk zs (zs.length - 1 - i)) (by simp only [upto, List.mem_map, List.mem_range]; exact ⟨zs.length - 1 - i, by omega, rfl⟩)
   unfold bk at this
   rw [show zs.length - 1 - (zs.length - 1 - i) = i by omega, List.getD_eq_getElem?_getD, hi] at this
   exact this)
  have HFIN := Lib.hid hfin
  clear hne hfin
  gi_wp2
  have hK' := (KeepsOthers.setCell W ⟨w.heap.size + 1, 0, none⟩ (.int .i64 (-1))).same D _ hK rfl
  refine ⟨by simp, .inl ⟨_, _, rfl, run_takeDeferred hK', ?_⟩⟩
  have hc5 := cell_kept (World.cell?_setCell_same' W ⟨w.heap.size + 1, 0, none⟩ (.int .i64 (-1)) (by rw [hcr]; rfl)) (grownBy_putObj' _ D (.deferred none)) (fun r e => by cases e; exact ⟨_, hK', rfl⟩)
  refine ⟨.int .i64 (-1), ?_, by rw [HFIN.out], (hB.setCell (p := ⟨w.heap.size + 1, 0, none⟩) (by show w.heap.size ≤ w.heap.size + 1; omega) _).trans (belowK_b (w := w) (Nat.le_refl _) _ D _ _ (by omega) hK' rfl rfl)⟩
  simp [results, Tryz.results80, go_sem, hc5]
 rintro D c pre W hD ⟨k, hk, rfl⟩ ⟨⟨rfl, ini, last, e1, e2, e3, hcr⟩, hB⟩ hK
 obtain ⟨k', rfl⟩ : ∃ k', k = k' + 1 := by
  cases k with
  | zero => simp [upto] at e1
  | succ k' => exact ⟨k', rfl⟩
 rw [upto_succ] at e1
 obtain ⟨rfl, e5⟩ := List.append_inj' e1 rfl
 have e6 : bk zs k' = last := by simpa using e5
 have hlast : last.1 = zs.length - 1 - k' := by rw [← e6]; rfl
 have hfin : fieldF zs s = (last.1 : Int) := by
  refine fieldF_at zs s last.1 ?_ (fun j x hj hx => ?_)
  · have hlt : zs.length - 1 - k' < zs.length := by omega
    rw [← e6] at e3
    unfold bk at e3
    rw [hlast, ← e3, List.getD_eq_getElem?_getD, List.getElem?_eq_getElem hlt]
    rfl
  have hjl := (List.getElem?_eq_some_iff.1 hx).1
  have := e2 (bk zs (zs.length - 1 - j)) (by simp only [upto, List.mem_map, List.mem_range]; exact ⟨zs.length - 1 - j, by omega, rfl⟩)
  unfold bk at this
  rw [show zs.length - 1 - (zs.length - 1 - j) = j by omega, List.getD_eq_getElem?_getD, hx] at this
  exact this
 have HFIN := Lib.hid hfin
 clear hfin
 clear e1 e2 e3 e5 e6
 gi_wp2
 refine ⟨by simp, .inl ⟨_, _, rfl, run_takeDeferred hK, ?_⟩⟩
 have hc5 := cell_kept hcr (grownBy_putObj' _ D (.deferred none)) (fun r e => by cases e; exact ⟨_, hK, rfl⟩)
 refine ⟨.int .i64 (last.1 : Int), ?_, by rw [HFIN.out], hB.trans (belowK_b (w := w) (Nat.le_refl _) W D _ _ (by omega) hK rfl rfl)⟩
 simp [results, Tryz.results80, go_sem, hc5]
theorem field_any {B b : Nat} {F G : List Bytes} {kv fv gv : Value} {K : List Kn} {n : Nat} {w : World} (s : Bytes) (h : Rs B b F G kv fv gv K n w) :
  Calls Tryz.prog 80 #[.pointer (some ⟨b, 0, none⟩), .string ⟨s.toArray⟩] w (Back (.int .i64 (fieldF F s)) w) := by
 obtain ⟨a, c, rfl, -, -⟩ := h.fld.form
 exact (callsIn_wide (n := 3)).1 (field_in _ 3 trivial trivial trivial rfl (by omega) b _ _ _ a F.length c F s w h.blk (h.fld.mono (fun _ _ _ => trivial)))
end Rv
end Go.Proofs.YtmmgfifpjifjnaaGreatDoor
