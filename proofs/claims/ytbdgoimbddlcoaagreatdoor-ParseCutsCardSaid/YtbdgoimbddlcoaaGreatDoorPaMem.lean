/- Package parse, the walk: the parser's memory; what its functions hand back. -/
import Derived.Test.YtbdgoimbddlcoaaGreatDoorPaS
import Derived.Test.YtbdgoimbddlcoaaGreatDoorLxNa
import Derived.Test.YtbdgoimbddlcoaaGreatDoorTrOwn
import Derived.KernelRfl
set_option linter.unusedVariables false
namespace Go.Proofs.YtbdgoimbddlcoaaGreatDoor
open Go.RowKit
namespace Pa
open Bs Sm Lx Tr
abbrev PT : Nat := 98
abbrev KT : Nat := 99
abbrev PF : Nat := 48
/-- A token's value. -/
def ptV (t : Pt) : Value := .agg #[.int .i64 t.kind, .string ⟨t.word.toArray⟩, .int .i64 t.num, .int .i64 t.at_]
theorem fld0 (k wd n a : Value) (v : World) : (Instr.field KT (.agg #[k, wd, n, a]) 0).run Tryz.prog v = .ok k v := by kernel_rfl
theorem fld1 (k wd n a : Value) (v : World) : (Instr.field KT (.agg #[k, wd, n, a]) 1).run Tryz.prog v = .ok wd v := by kernel_rfl
theorem fld2 (k wd n a : Value) (v : World) : (Instr.field KT (.agg #[k, wd, n, a]) 2).run Tryz.prog v = .ok n v := by kernel_rfl
theorem fld3 (k wd n a : Value) (v : World) : (Instr.field KT (.agg #[k, wd, n, a]) 3).run Tryz.prog v = .ok a v := by kernel_rfl
/-- A token's cells. -/
def TkC (w : World) (b o : Nat) (t : Pt) : Prop :=
 w.cell? ⟨b, o, none⟩ = some (.int .i64 t.kind) ∧ w.cell? ⟨b, o + 1, none⟩ = some (.string ⟨t.word.toArray⟩) ∧ w.cell? ⟨b, o + 2, none⟩ = some (.int .i64 t.num) ∧ w.cell? ⟨b, o + 3, none⟩ = some (.int .i64 t.at_)
/-- The parser: its block, its tokens. -/
structure Pr (b : Nat) (L : List Pt) (tb tc : Nat) (bad : Int) (a d : Nat) (w : World) : Prop where
 blk : Blk PT b #[.slice (some ⟨tb, 0, none⟩) L.length tc, .int .i64 bad, .int .i64 (a : Int), .int .i64 (d : Int)] w
 ne : tb ≠ b
 lt : tb < w.heap.size
 tok : ∀ i, i < L.length → TkC w tb (i * 4) (now L i)
 cap : L.length ≤ tc ∧ tc ≤ maxLen
section
variable {b : Nat} {L : List Pt} {tb tc : Nat} {bad : Int} {a a' d d' : Nat} {w w' w'' : World}
theorem TkC.kp {o : Nat} {t : Pt} (h : TkC w b o t) (hk : ∀ i, w'.cell? ⟨b, i, none⟩ = w.cell? ⟨b, i, none⟩) : TkC w' b o t := by
 obtain ⟨h0, h1, h2, h3⟩ := h
 exact ⟨(hk _).trans h0, (hk _).trans h1, (hk _).trans h2, (hk _).trans h3⟩
theorem Pr.mv (h : Pr b L tb tc bad a d w) (hm : Mv b w w') (hb : Blk PT b #[.slice (some ⟨tb, 0, none⟩) L.length tc, .int .i64 bad, .int .i64 (a' : Int), .int .i64 (d' : Int)] w') : Pr b L tb tc bad a' d' w' :=
 ⟨hb, h.ne, Nat.lt_of_lt_of_le h.lt hm.size, fun i hi => (h.tok i hi).kp (fun j => World.cell?_of_block (hm.block tb h.lt h.ne)), h.cap⟩
theorem Pr.bel (h : Pr b L tb tc bad a d w) (hb : Below w.heap.size w w') : Pr b L tb tc bad a d w' := h.mv (Mv.below hb) (h.blk.below hb h.blk.lt)
theorem Pr.drewN (h : Pr b L tb tc bad a d w) (m : Nat) : Pr b L tb tc bad a d (w.drewN m) := ⟨h.blk.drewN m, h.ne, h.lt, h.tok, h.cap⟩
theorem Pr.c0 (h : Pr b L tb tc bad a d w) : w.cell? ⟨b, 0, none⟩ = some (.slice (some ⟨tb, 0, none⟩) L.length tc) := h.blk.c 0 _ rfl
theorem Pr.c1 (h : Pr b L tb tc bad a d w) : w.cell? ⟨b, 1, none⟩ = some (.int .i64 bad) := h.blk.c 1 _ rfl
theorem Pr.c2 (h : Pr b L tb tc bad a d w) : w.cell? ⟨b, 2, none⟩ = some (.int .i64 (a : Int)) := h.blk.c 2 _ rfl
theorem Pr.c3 (h : Pr b L tb tc bad a d w) : w.cell? ⟨b, 3, none⟩ = some (.int .i64 (d : Int)) := h.blk.c 3 _ rfl
theorem Pr.setA (h : Pr b L tb tc bad a d w) (n : Nat) : Pr b L tb tc bad n d (w.setCell ⟨b, 2, none⟩ (.int .i64 (n : Int))) :=
 h.mv ((Mv.refl b w).set_ 2 _) (h.blk.set_ 2 _ _ rfl)
theorem Pr.setD (h : Pr b L tb tc bad a d w) (n : Nat) : Pr b L tb tc bad a n (w.setCell ⟨b, 3, none⟩ (.int .i64 (n : Int))) :=
 h.mv ((Mv.refl b w).set_ 3 _) (h.blk.set_ 3 _ _ rfl)
theorem Pr.far (h : Pr b L tb tc bad a d w) {p : Addr} (h1 : b ≠ p.block) (h2 : tb ≠ p.block) (u : Value) : Pr b L tb tc bad a d (w.setCell p u) :=
 ⟨h.blk.far h1 u, h.ne, by simpa [World.setCell] using h.lt, fun i hi => (h.tok i hi).kp (fun j => World.cell?_of_block (Below.heap_setCell w p u tb h2)), h.cap⟩
theorem Pr.alloc (h : Pr b L tb tc bad a d w) (o : Obj) : Pr b L tb tc bad a d (w.alloc o) := h.bel (alloc_bel w o)
theorem Pr.drew (h : Pr b L tb tc bad a d w) : Pr b L tb tc bad a d w.drew := ⟨h.blk.drewN 1, h.ne, h.lt, h.tok, h.cap⟩
section
variable {T j k : Nat} {a0 a1 a2 a3 a4 a5 v0 v1 v2 v3 v4 v5 : Value} {cs : Array Value} {S : Nat → Prop}
theorem blk_set6 (h : Blk T k #[a0, a1, a2, a3, a4, a5] w) : Blk T k #[v0, v1, v2, v3, v4, v5] ((((((w.setCell ⟨k, 0, none⟩ v0).setCell ⟨k, 1, none⟩ v1).setCell ⟨k, 2, none⟩ v2).setCell ⟨k, 3, none⟩ v3).setCell ⟨k, 4, none⟩ v4).setCell ⟨k, 5, none⟩ v5) :=
 (((((h.set_ 0 v0 _ rfl).set_ 1 v1 _ rfl).set_ 2 v2 _ rfl).set_ 3 v3 _ rfl).set_ 4 v4 _ rfl).set_ 5 v5 _ rfl
theorem blk_far6 (h : Blk T j cs w) (hne : j ≠ k) : Blk T j cs ((((((w.setCell ⟨k, 0, none⟩ v0).setCell ⟨k, 1, none⟩ v1).setCell ⟨k, 2, none⟩ v2).setCell ⟨k, 3, none⟩ v3).setCell ⟨k, 4, none⟩ v4).setCell ⟨k, 5, none⟩ v5) :=
 (((((h.far hne v0).far (p := ⟨k, 1, none⟩) hne v1).far (p := ⟨k, 2, none⟩) hne v2).far (p := ⟨k, 3, none⟩) hne v3).far (p := ⟨k, 4, none⟩) hne v4).far (p := ⟨k, 5, none⟩) hne v5
theorem pr_far6 (h : Pr b L tb tc bad a d w) (h1 : b ≠ k) (h2 : tb ≠ k) : Pr b L tb tc bad a d ((((((w.setCell ⟨k, 0, none⟩ v0).setCell ⟨k, 1, none⟩ v1).setCell ⟨k, 2, none⟩ v2).setCell ⟨k, 3, none⟩ v3).setCell ⟨k, 4, none⟩ v4).setCell ⟨k, 5, none⟩ v5) :=
 (((((h.far (p := ⟨k, 0, none⟩) h1 h2 v0).far (p := ⟨k, 1, none⟩) h1 h2 v1).far (p := ⟨k, 2, none⟩) h1 h2 v2).far (p := ⟨k, 3, none⟩) h1 h2 v3).far (p := ⟨k, 4, none⟩) h1 h2 v4).far (p := ⟨k, 5, none⟩) h1 h2 v5
theorem mv_set6 {w0 : World} (h : Mv b w0 w) (hk : w0.heap.size ≤ k) : Mv b w0 ((((((w.setCell ⟨k, 0, none⟩ v0).setCell ⟨k, 1, none⟩ v1).setCell ⟨k, 2, none⟩ v2).setCell ⟨k, 3, none⟩ v3).setCell ⟨k, 4, none⟩ v4).setCell ⟨k, 5, none⟩ v5) :=
 (((((h.new (p := ⟨k, 0, none⟩) hk v0).new (p := ⟨k, 1, none⟩) hk v1).new (p := ⟨k, 2, none⟩) hk v2).new (p := ⟨k, 3, none⟩) hk v3).new (p := ⟨k, 4, none⟩) hk v4).new (p := ⟨k, 5, none⟩) hk v5
theorem size_set6 : ((((((w.setCell ⟨k, 0, none⟩ v0).setCell ⟨k, 1, none⟩ v1).setCell ⟨k, 2, none⟩ v2).setCell ⟨k, 3, none⟩ v3).setCell ⟨k, 4, none⟩ v4).setCell ⟨k, 5, none⟩ v5).heap.size = w.heap.size := by simp [World.setCell]
theorem kp_set6 (hS : ¬ S k) : Kp S w ((((((w.setCell ⟨k, 0, none⟩ v0).setCell ⟨k, 1, none⟩ v1).setCell ⟨k, 2, none⟩ v2).setCell ⟨k, 3, none⟩ v3).setCell ⟨k, 4, none⟩ v4).setCell ⟨k, 5, none⟩ v5) := by
 refine ⟨by rw [size_set6]; exact Nat.le_refl _, fun i hi _ => ?_⟩
 have hne : i ≠ k := fun e => hS (e ▸ hi)
 rw [Below.heap_setCell _ ⟨k, 5, none⟩ v5 i hne, Below.heap_setCell _ ⟨k, 4, none⟩ v4 i hne, Below.heap_setCell _ ⟨k, 3, none⟩ v3 i hne, Below.heap_setCell _ ⟨k, 2, none⟩ v2 i hne, Below.heap_setCell _ ⟨k, 1, none⟩ v1 i hne, Below.heap_setCell _ ⟨k, 0, none⟩ v0 i hne]
theorem kp_set (i : Nat) (hS : ¬ S k) (u : Value) : Kp S w (w.setCell ⟨k, i, none⟩ u) :=
 ⟨by simp [World.setCell], fun j hj _ => Below.heap_setCell w ⟨k, i, none⟩ u j (fun e => hS (by subst e; exact hj))⟩
end
/-- A fault. -/
def fltP (a n : Int) : Value := .iface PF (.agg #[.int .i64 a, .int .i64 n])
/-- It stops. -/
def Fel (b : Nat) (E : Int × Int) (w : World) (e : Ending) (w' : World) : Prop := e = .panicked [{ v := fltP E.1 E.2, recovered := false }] ∧ Mv b w w'
/-- A value, at another place of the tokens. -/
def Trn (b : Nat) (L : List Pt) (tb tc : Nat) (bad : Int) (a d : Nat) (v : Value) (w : World) (e : Ending) (w' : World) : Prop := e = .returned v ∧ Pr b L tb tc bad a d w' ∧ Mv b w w'
/-- A node's value whose parts can be read. -/
def NdAt (S : Nat → Prop) (w : World) (v : Value) (x : Nd) : Prop := ∃ kv nv, v = ndV x kv nv ∧ Tree S w kv x.kids ∧ Rd S strV w nv x.names
/-- New blocks. -/
def New (w : World) : Nat → Prop := fun k => w.heap.size ≤ k
theorem NdAt.kp {S : Nat → Prop} {v : Value} {x : Nd} (h : NdAt S w v x) (hk : Kp S w w') : NdAt S w' v x := by
 obtain ⟨kv, nv, h1, h2, h3⟩ := h
 exact ⟨kv, nv, h1, h2.kp hk, h3.kp hk⟩
theorem NdAt.mono {S S' : Nat → Prop} {v : Value} {x : Nd} (h : NdAt S w v x) (hs : ∀ k, S k → k < w.heap.size → S' k) : NdAt S' w v x := by
 obtain ⟨kv, nv, h1, h2, h3⟩ := h
 exact ⟨kv, nv, h1, h2.mono hs, h3.mono hs⟩
theorem NdAt.bel {S : Nat → Prop} {v : Value} {x : Nd} (h : NdAt S w v x) (hb : Below w.heap.size w w') : NdAt S w' v x := h.kp (Kp.of hb)
theorem Mv.kp {S : Nat → Prop} (h : Mv b w w') (hS : ¬ S b) : Kp S w w' := ⟨h.size, fun k hk hl => h.block k hl (fun e => hS (e ▸ hk))⟩
/-- A node, or a fault. -/
def NdO (b : Nat) (L : List Pt) (tb tc : Nat) (bad : Int) (d : Nat) (S : Nat → Prop) (x : PE (Nd × Nat)) (w : World) (e : Ending) (w' : World) : Prop :=
 match x with
 | .error E => Fel b E w e w'
 | .ok (n, a) => ∃ v, NdAt S w' v n ∧ Trn b L tb tc bad a d v w e w'
/-- A node and a flag, or a fault. -/
def NbO (b : Nat) (L : List Pt) (tb tc : Nat) (bad : Int) (d : Nat) (S : Nat → Prop) (x : PE (Nd × Bool × Nat)) (w : World) (e : Ending) (w' : World) : Prop :=
 match x with
 | .error E => Fel b E w e w'
 | .ok (n, s, a) => ∃ v, NdAt S w' v n ∧ Trn b L tb tc bad a d (.tuple #[v, .bool s]) w e w'
/-- Nodes, or a fault. -/
def NsO (b : Nat) (L : List Pt) (tb tc : Nat) (bad : Int) (d : Nat) (S : Nat → Prop) (x : PE (List Nd × Nat)) (w : World) (e : Ending) (w' : World) : Prop :=
 match x with
 | .error E => Fel b E w e w'
 | .ok (l, a) => ∃ v, Tree S w' v l ∧ Trn b L tb tc bad a d v w e w'
/-- Names, or a fault. -/
def SsO (b : Nat) (L : List Pt) (tb tc : Nat) (bad : Int) (d : Nat) (S : Nat → Prop) (x : PE (List Bs.Bytes × Nat)) (w : World) (e : Ending) (w' : World) : Prop :=
 match x with
 | .error E => Fel b E w e w'
 | .ok (l, a) => ∃ v, Rd S strV w' v l ∧ Trn b L tb tc bad a d v w e w'
end
end Pa
end Go.Proofs.YtbdgoimbddlcoaaGreatDoor
