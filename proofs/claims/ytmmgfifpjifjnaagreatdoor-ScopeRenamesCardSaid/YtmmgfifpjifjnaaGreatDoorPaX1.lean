/- Package parse, the walk: the parser's memory; what its functions hand back. · Package parse, the walk, 1: the token here, the next one, what must be here. · Package parse, the walk, 2: names, vars. · Package parse, the walk, 3: send, simple. · Package parse, the walk, 4: a node in a block of its own; what calls itself; unary. -/
import Derived.Test.YtmmgfifpjifjnaaGreatDoorPaS
import Derived.Test.YtmmgfifpjifjnaaGreatDoorLxNa
import Derived.Test.YtmmgfifpjifjnaaGreatDoorTrC
import Derived.KernelRfl
import Derived.Deep.DeepCutAuto
import Derived.Handy
set_option linter.unusedVariables false
namespace Go.Proofs.YtmmgfifpjifjnaaGreatDoor
open Go.RowKit
namespace Pa
open Bs Sm Lx Tr
abbrev PT : Nat := 120
abbrev KT : Nat := 122
abbrev PF : Nat := 89
def ptV (t : Pt) : Value := .agg #[.int .i64 t.kind, .string ⟨t.word.toArray⟩, .int .i64 t.num, .int .i64 t.at_]
theorem fld0 (k wd n a : Value) (v : World) : (Instr.field KT (.agg #[k, wd, n, a]) 0).run Tryz.prog v = .ok k v := by kernel_rfl
theorem fld1 (k wd n a : Value) (v : World) : (Instr.field KT (.agg #[k, wd, n, a]) 1).run Tryz.prog v = .ok wd v := by kernel_rfl
theorem fld3 (k wd n a : Value) (v : World) : (Instr.field KT (.agg #[k, wd, n, a]) 3).run Tryz.prog v = .ok a v := by kernel_rfl
def TkC (w : World) (b o : Nat) (t : Pt) : Prop :=
 w.cell? ⟨b, o, none⟩ = some (.int .i64 t.kind) ∧ w.cell? ⟨b, o + 1, none⟩ = some (.string ⟨t.word.toArray⟩) ∧ w.cell? ⟨b, o + 2, none⟩ = some (.int .i64 t.num) ∧ w.cell? ⟨b, o + 3, none⟩ = some (.int .i64 t.at_)
structure Pr (b : Nat) (L : List Pt) (tb tc : Nat) (bad : Int) (a d : Nat) (w : World) : Prop where
 blk : Blk PT b #[.slice (some ⟨tb, 0, none⟩) L.length tc, .int .i64 bad, .int .i64 (a : Int), .int .i64 (d : Int)] w
 ne : tb ≠ b
 lt : tb < w.heap.size
 tok : ∀ i, i < L.length → TkC w tb (i * 4) (now L i)
 cap : L.length ≤ tc ∧ tc ≤ maxLen
section
variable {b : Nat} {L : List Pt} {tb tc : Nat} {bad : Int} {a a' d d' : Nat} {w w' w'' : World}
theorem TkC.kp {o : Nat} {t : Pt} (h : TkC w b o t) (hk : ∀ i, w'.cell? ⟨b, i, none⟩ = w.cell? ⟨b, i, none⟩) : TkC w' b o t := by
 obtain ⟨h0, h1, h2, h3⟩ := h
 exact ⟨(hk _).trans h0, (hk _).trans h1, (hk _).trans h2, (hk _).trans h3⟩
theorem Pr.mv (h : Pr b L tb tc bad a d w) (hm : Mv b w w') (hb : Blk PT b #[.slice (some ⟨tb, 0, none⟩) L.length tc, .int .i64 bad, .int .i64 (a' : Int), .int .i64 (d' : Int)] w') : Pr b L tb tc bad a' d' w' :=
 ⟨hb, h.ne, Nat.lt_of_lt_of_le h.lt hm.size, fun i hi => (h.tok i hi).kp (fun j => World.cell?_of_block (hm.block tb h.lt h.ne)), h.cap⟩
theorem Pr.bel (h : Pr b L tb tc bad a d w) (hb : Below w.heap.size w w') : Pr b L tb tc bad a d w' := h.mv (Mv.below hb) (h.blk.below hb h.blk.lt)
theorem Pr.drewN (h : Pr b L tb tc bad a d w) (m : Nat) : Pr b L tb tc bad a d (w.drewN m) := ⟨h.blk.drewN m, h.ne, h.lt, h.tok, h.cap⟩
theorem Pr.c0 (h : Pr b L tb tc bad a d w) : w.cell? ⟨b, 0, none⟩ = some (.slice (some ⟨tb, 0, none⟩) L.length tc) := h.blk.c 0 _ rfl
theorem Pr.c1 (h : Pr b L tb tc bad a d w) : w.cell? ⟨b, 1, none⟩ = some (.int .i64 bad) := h.blk.c 1 _ rfl
theorem Pr.c2 (h : Pr b L tb tc bad a d w) : w.cell? ⟨b, 2, none⟩ = some (.int .i64 (a : Int)) := h.blk.c 2 _ rfl
theorem Pr.c3 (h : Pr b L tb tc bad a d w) : w.cell? ⟨b, 3, none⟩ = some (.int .i64 (d : Int)) := h.blk.c 3 _ rfl
theorem Pr.setA (h : Pr b L tb tc bad a d w) (n : Nat) : Pr b L tb tc bad n d (w.setCell ⟨b, 2, none⟩ (.int .i64 (n : Int))) :=
 h.mv ((Mv.refl b w).set_ 2 _) (h.blk.set_ 2 _ _ rfl)
theorem Pr.setD (h : Pr b L tb tc bad a d w) (n : Nat) : Pr b L tb tc bad a n (w.setCell ⟨b, 3, none⟩ (.int .i64 (n : Int))) :=
 h.mv ((Mv.refl b w).set_ 3 _) (h.blk.set_ 3 _ _ rfl)
theorem Pr.far (h : Pr b L tb tc bad a d w) {p : Addr} (h1 : b ≠ p.block) (h2 : tb ≠ p.block) (u : Value) : Pr b L tb tc bad a d (w.setCell p u) :=
 ⟨h.blk.far h1 u, h.ne, by simpa [World.setCell] using h.lt, fun i hi => (h.tok i hi).kp (fun j => World.cell?_of_block (Below.heap_setCell w p u tb h2)), h.cap⟩
theorem Pr.alloc (h : Pr b L tb tc bad a d w) (o : Obj) : Pr b L tb tc bad a d (w.alloc o) := h.bel (alloc_bel w o)
theorem Pr.drew (h : Pr b L tb tc bad a d w) : Pr b L tb tc bad a d w.drew := ⟨h.blk.drewN 1, h.ne, h.lt, h.tok, h.cap⟩
section
variable {T j k : Nat} {a0 a1 a2 a3 a4 a5 v0 v1 v2 v3 v4 v5 : Value} {cs : Array Value} {S : Nat → Prop}
theorem blk_set6 (h : Blk T k #[a0, a1, a2, a3, a4, a5] w) : Blk T k #[v0, v1, v2, v3, v4, v5] ((((((w.setCell ⟨k, 0, none⟩ v0).setCell ⟨k, 1, none⟩ v1).setCell ⟨k, 2, none⟩ v2).setCell ⟨k, 3, none⟩ v3).setCell ⟨k, 4, none⟩ v4).setCell ⟨k, 5, none⟩ v5) :=
 (((((h.set_ 0 v0 _ rfl).set_ 1 v1 _ rfl).set_ 2 v2 _ rfl).set_ 3 v3 _ rfl).set_ 4 v4 _ rfl).set_ 5 v5 _ rfl
theorem blk_far6 (h : Blk T j cs w) (hne : j ≠ k) : Blk T j cs ((((((w.setCell ⟨k, 0, none⟩ v0).setCell ⟨k, 1, none⟩ v1).setCell ⟨k, 2, none⟩ v2).setCell ⟨k, 3, none⟩ v3).setCell ⟨k, 4, none⟩ v4).setCell ⟨k, 5, none⟩ v5) :=
 (((((h.far hne v0).far (p := ⟨k, 1, none⟩) hne v1).far (p := ⟨k, 2, none⟩) hne v2).far (p := ⟨k, 3, none⟩) hne v3).far (p := ⟨k, 4, none⟩) hne v4).far (p := ⟨k, 5, none⟩) hne v5
theorem pr_far6 (h : Pr b L tb tc bad a d w) (h1 : b ≠ k) (h2 : tb ≠ k) : Pr b L tb tc bad a d ((((((w.setCell ⟨k, 0, none⟩ v0).setCell ⟨k, 1, none⟩ v1).setCell ⟨k, 2, none⟩ v2).setCell ⟨k, 3, none⟩ v3).setCell ⟨k, 4, none⟩ v4).setCell ⟨k, 5, none⟩ v5) :=
 (((((h.far (p := ⟨k, 0, none⟩) h1 h2 v0).far (p := ⟨k, 1, none⟩) h1 h2 v1).far (p := ⟨k, 2, none⟩) h1 h2 v2).far (p := ⟨k, 3, none⟩) h1 h2 v3).far (p := ⟨k, 4, none⟩) h1 h2 v4).far (p := ⟨k, 5, none⟩) h1 h2 v5
theorem mv_set6 {w0 : World} (h : Mv b w0 w) (hk : w0.heap.size ≤ k) : Mv b w0 ((((((w.setCell ⟨k, 0, none⟩ v0).setCell ⟨k, 1, none⟩ v1).setCell ⟨k, 2, none⟩ v2).setCell ⟨k, 3, none⟩ v3).setCell ⟨k, 4, none⟩ v4).setCell ⟨k, 5, none⟩ v5) :=
 (((((h.new (p := ⟨k, 0, none⟩) hk v0).new (p := ⟨k, 1, none⟩) hk v1).new (p := ⟨k, 2, none⟩) hk v2).new (p := ⟨k, 3, none⟩) hk v3).new (p := ⟨k, 4, none⟩) hk v4).new (p := ⟨k, 5, none⟩) hk v5
theorem size_set6 : ((((((w.setCell ⟨k, 0, none⟩ v0).setCell ⟨k, 1, none⟩ v1).setCell ⟨k, 2, none⟩ v2).setCell ⟨k, 3, none⟩ v3).setCell ⟨k, 4, none⟩ v4).setCell ⟨k, 5, none⟩ v5).heap.size = w.heap.size := by simp [World.setCell]
theorem kp_set6 (hS : ¬ S k) : Kp S w ((((((w.setCell ⟨k, 0, none⟩ v0).setCell ⟨k, 1, none⟩ v1).setCell ⟨k, 2, none⟩ v2).setCell ⟨k, 3, none⟩ v3).setCell ⟨k, 4, none⟩ v4).setCell ⟨k, 5, none⟩ v5) := by
 refine ⟨by rw [size_set6]; exact Nat.le_refl _, fun i hi _ => ?_⟩
 have hne : i ≠ k := fun e => hS (e ▸ hi)
 rw [Below.heap_setCell _ ⟨k, 5, none⟩ v5 i hne, Below.heap_setCell _ ⟨k, 4, none⟩ v4 i hne, Below.heap_setCell _ ⟨k, 3, none⟩ v3 i hne, Below.heap_setCell _ ⟨k, 2, none⟩ v2 i hne, Below.heap_setCell _ ⟨k, 1, none⟩ v1 i hne, Below.heap_setCell _ ⟨k, 0, none⟩ v0 i hne]
theorem kp_set (i : Nat) (hS : ¬ S k) (u : Value) : Kp S w (w.setCell ⟨k, i, none⟩ u) :=
 ⟨by simp [World.setCell], fun j hj _ => Below.heap_setCell w ⟨k, i, none⟩ u j (fun e => hS (by subst e; exact hj))⟩
end
def fltP (a n : Int) : Value := .iface PF (.agg #[.int .i64 a, .int .i64 n])
def Fel (b : Nat) (E : Int × Int) (w : World) (e : Ending) (w' : World) : Prop := e = .panicked [{ v := fltP E.1 E.2, recovered := false }] ∧ Mv b w w'
def Trn (b : Nat) (L : List Pt) (tb tc : Nat) (bad : Int) (a d : Nat) (v : Value) (w : World) (e : Ending) (w' : World) : Prop := e = .returned v ∧ Pr b L tb tc bad a d w' ∧ Mv b w w'
def NdAt (S : Nat → Prop) (w : World) (v : Value) (x : Nd) : Prop := ∃ kv nv, v = ndV x kv nv ∧ Tree S w kv x.kids ∧ Rd S strV w nv x.names
def New (w : World) : Nat → Prop := fun k => w.heap.size ≤ k
theorem NdAt.kp {S : Nat → Prop} {v : Value} {x : Nd} (h : NdAt S w v x) (hk : Kp S w w') : NdAt S w' v x := by
 obtain ⟨kv, nv, h1, h2, h3⟩ := h
 exact ⟨kv, nv, h1, h2.kp hk, h3.kp hk⟩
theorem NdAt.mono {S S' : Nat → Prop} {v : Value} {x : Nd} (h : NdAt S w v x) (hs : ∀ k, S k → k < w.heap.size → S' k) : NdAt S' w v x := by
 obtain ⟨kv, nv, h1, h2, h3⟩ := h
 exact ⟨kv, nv, h1, h2.mono hs, h3.mono hs⟩
theorem NdAt.bel {S : Nat → Prop} {v : Value} {x : Nd} (h : NdAt S w v x) (hb : Below w.heap.size w w') : NdAt S w' v x := h.kp (Kp.of hb)
theorem Mv.kp {S : Nat → Prop} (h : Mv b w w') (hS : ¬ S b) : Kp S w w' := ⟨h.size, fun k hk hl => h.block k hl (fun e => hS (e ▸ hk))⟩
def NdO (b : Nat) (L : List Pt) (tb tc : Nat) (bad : Int) (d : Nat) (S : Nat → Prop) (x : PE (Nd × Nat)) (w : World) (e : Ending) (w' : World) : Prop :=
 match x with
 | .error E => Fel b E w e w'
 | .ok (n, a) => ∃ v, NdAt S w' v n ∧ Trn b L tb tc bad a d v w e w'
def NbO (b : Nat) (L : List Pt) (tb tc : Nat) (bad : Int) (d : Nat) (S : Nat → Prop) (x : PE (Nd × Bool × Nat)) (w : World) (e : Ending) (w' : World) : Prop :=
 match x with
 | .error E => Fel b E w e w'
 | .ok (n, s, a) => ∃ v, NdAt S w' v n ∧ Trn b L tb tc bad a d (.tuple #[v, .bool s]) w e w'
def NsO (b : Nat) (L : List Pt) (tb tc : Nat) (bad : Int) (d : Nat) (S : Nat → Prop) (x : PE (List Nd × Nat)) (w : World) (e : Ending) (w' : World) : Prop :=
 match x with
 | .error E => Fel b E w e w'
 | .ok (l, a) => ∃ v, Tree S w' v l ∧ Trn b L tb tc bad a d v w e w'
def SsO (b : Nat) (L : List Pt) (tb tc : Nat) (bad : Int) (d : Nat) (S : Nat → Prop) (x : PE (List Bs.Bytes × Nat)) (w : World) (e : Ending) (w' : World) : Prop :=
 match x with
 | .error E => Fel b E w e w'
 | .ok (l, a) => ∃ v, Rd S strV w' v l ∧ Trn b L tb tc bad a d v w e w'
end
end Pa
end Go.Proofs.YtmmgfifpjifjnaaGreatDoor
namespace Go.Proofs.YtmmgfifpjifjnaaGreatDoor
open Go.RowKit
namespace Pa
open Bs Sm Tr
open Lx (Mv)
section
variable {b : Nat} {L : List Pt} {tb tc : Nat} {bad : Int} {a d : Nat} {w : World}
theorem panic_put {P : Program} {fn : Func} {R : Ending → World → Prop} {K : Act → World → Prop} (c : _) (d : Option Nat) (v : Value) (a : Act) (w : World) (h : Exit.then K (bodyPost P fn R) (.panic c) (a.put d v) w) : Exit.then K (bodyPost P fn R) (.panic c) a w := by cases d <;> exact h
theorem below_alloc_drew (w : World) (o : Obj) : Below w.heap.size w (w.alloc o).drew := (alloc_bel w o).drew
set_option maxRecDepth 100000 in
set_option maxHeartbeats 1600000 in
theorem now_any (h : Pr b L tb tc bad a d w) (ha : a < L.length) : Calls Tryz.prog 97 #[.pointer (some ⟨b, 0, none⟩)] w (Back (ptV (now L a)) w) := by
 obtain ⟨k0, k1, k2, k3⟩ := h.tok a ha
 have c0 := h.c0
 have c2 := h.c2
 have hlt := h.lt
 have hbl := h.blk.lt
 have n1 : ¬ b = w.heap.size := by omega
 have n2 : ¬ tb = w.heap.size := by omega
 clear h
 unfold ptV
 go_enter Tryz.func97, Tryz.ntmps97
 go_wp2_with fail
 go_region
 all_goals go_wp2_with fail
 all_goals exact bodyPost_ret (v := .agg #[.int .i64 (now L a).kind, .string ⟨(now L a).word.toArray⟩, .int .i64 (now L a).num, .int .i64 (now L a).at_]) (by simp [results, Tryz.results97, go_sem]) rfl ⟨rfl, below_alloc_drew _ _⟩
set_option maxRecDepth 100000 in
set_option maxHeartbeats 1600000 in
theorem ahead_any (h : Pr b L tb tc bad a d w) (hp : 0 < L.length) (hl : L.length ≤ 1100000) (ha : a ≤ 1100000) : Calls Tryz.prog 153 #[.pointer (some ⟨b, 0, none⟩)] w (Back (ptV (ahead L a)) w) := by
 obtain ⟨m, hm⟩ : ∃ m, min (a + 1) (L.length - 1) = m := ⟨_, rfl⟩
 have e : ahead L a = now L m := by unfold ahead now; rw [hm]
 rw [e]
 obtain ⟨k0, k1, k2, k3⟩ := h.tok m (by omega)
 have hmi : min ((a : Int) + 1) ((L.length : Int) - 1) = (m : Int) := by omega
 have hml : m < L.length := by omega
 have c0 := h.c0
 have c2 := h.c2
 have hlt := h.lt
 have hbl := h.blk.lt
 have n1 : ¬ b = w.heap.size := by omega
 have n2 : ¬ tb = w.heap.size := by omega
 have w1 : IntKind.i64.wrap ((a : Int) + 1) = (a : Int) + 1 := IntWalk.i64_in _ (by omega)
 have w2 : IntKind.i64.wrap ((L.length : Int) - 1) = (L.length : Int) - 1 := IntWalk.i64_in _ (by omega)
 clear h e hm
 unfold ptV
 go_enter Tryz.func153, Tryz.ntmps153
 go_wp2_with fail
 go_region
 all_goals go_wp2_with fail
 all_goals exact bodyPost_ret (v := .agg #[.int .i64 (now L m).kind, .string ⟨(now L m).word.toArray⟩, .int .i64 (now L m).num, .int .i64 (now L m).at_]) (by simp [results, Tryz.results153, go_sem]) rfl ⟨rfl, below_alloc_drew _ _⟩
set_option maxRecDepth 100000 in
set_option maxHeartbeats 1600000 in
theorem is_any (h : Pr b L tb tc bad a d w) (ha : a < L.length) (k : Int) : Calls Tryz.prog 100 #[.pointer (some ⟨b, 0, none⟩), .int .i64 k] w (Back (.bool (isK L k a)) w) := by
 have HN := Lib.hid (now_any h ha)
 unfold isK
 obtain ⟨t, ht⟩ : ∃ t, now L a = t := ⟨_, rfl⟩
 rw [ht] at HN ⊢
 clear h ht
 unfold ptV at HN
 have F0 := fld0
 go_enter Tryz.func100, Tryz.ntmps100
 go_wp2_with fail
 refine HN.out.mono ?_; rintro e w1 ⟨rfl, hb⟩
 go_wp2_with fail
 go_ret
 exact ⟨rfl, hb⟩
theorem str_beq (x y : Bs.Bytes) : ((⟨x.toArray⟩ : ByteArray).toList == (⟨y.toArray⟩ : ByteArray).toList) = (x == y) := by
 rw [ByteArray.toList_eq, ByteArray.toList_eq]
set_option maxRecDepth 100000 in
set_option maxHeartbeats 1600000 in
theorem op_any (h : Pr b L tb tc bad a d w) (ha : a < L.length) (wd : Bs.Bytes) : Calls Tryz.prog 102 #[.pointer (some ⟨b, 0, none⟩), .string ⟨wd.toArray⟩] w (Back (.bool (opB L wd a)) w) := by
 have HI := Lib.hid (is_any h ha 6)
 have HN := fun w' (hb : Below w.heap.size w w') => now_any (h.bel hb) ha
 unfold opB
 obtain ⟨t, ht⟩ : ∃ t, now L a = t := ⟨_, rfl⟩
 obtain ⟨q, hq⟩ : ∃ t, isK L 6 a = t := ⟨_, rfl⟩
 rw [hq] at HI
 rw [ht] at HN
 rw [ht, hq]
 replace HN := Lib.hid HN
 clear h ht hq
 unfold ptV at HN
 have hse := str_beq t.word wd
 cases q with
 | false =>
  go_enter Tryz.func102, Tryz.ntmps102
  go_wp2_with fail
  refine HI.out.mono ?_; rintro e w1 ⟨rfl, hb⟩
  go_wp2_with fail
  go_ret
  exact ⟨rfl, hb⟩
 | true =>
  have F1 := fld1
  go_enter Tryz.func102, Tryz.ntmps102
  go_wp2_with fail
  refine HI.out.mono ?_; rintro e w1 ⟨rfl, hb⟩
  go_wp2_with fail
  refine (HN.out w1 hb).mono ?_; rintro e w2 ⟨rfl, hb2⟩
  go_wp2_with fail
  go_ret
  exact ⟨by simp, hb.trans (hb2.mono hb.size)⟩
theorem Mv.of_bel {b : Nat} {w w' : World} (h : Below w.heap.size w w') : Mv b w w' := Mv.below h
set_option maxRecDepth 100000 in
set_option maxHeartbeats 1600000 in
theorem stop_any (h : Pr b L tb tc bad a d w) (ha : a < L.length) : Calls Tryz.prog 101 #[.pointer (some ⟨b, 0, none⟩)] w (Fel b (stopE L bad a) w) := by
 have HN := Lib.hid (now_any h ha)
 have HB := fun w' (hb : Below w.heap.size w w') => (h.bel hb).c1
 have hbl := h.blk.lt
 unfold stopE Fel fltP
 obtain ⟨t, ht⟩ : ∃ t, now L a = t := ⟨_, rfl⟩
 rw [ht] at HN ⊢
 replace HB := Lib.hid HB
 clear h ht
 unfold ptV at HN
 by_cases hk : t.kind < 0
 · rw [if_pos hk]
   go_enter Tryz.func101, Tryz.ntmps101
   go_wp2_with fail
   refine HN.out.mono ?_; rintro e w1 ⟨rfl, hb⟩
   have hs := hb.size
   have n1 : ¬ b = w1.heap.size := by omega
   have n3 : b < w1.heap.size := by omega
   have c1 := HB.out w1 hb
   go_wp2_with fail
   have hS : (w1.alloc (.cells #[.int .i64 t.kind, .string ⟨t.word.toArray⟩, .int .i64 t.num, .int .i64 t.at_] KT)).drew.cell? ⟨b, 1, none⟩ = some (.int .i64 bad) ∧ (w1.alloc (.cells #[.int .i64 t.kind, .string ⟨t.word.toArray⟩, .int .i64 t.num, .int .i64 t.at_] KT)).drew.cell? ⟨w1.heap.size, 3, none⟩ = some (.int .i64 t.at_) := by
    constructor
    · exact ((alloc_bel w1 _).cell (p := ⟨b, 1, none⟩) n3).trans c1
    simp
   refine Hd.start (fun v => v.cell? ⟨b, 1, none⟩ = some (.int .i64 bad) ∧ v.cell? ⟨w1.heap.size, 3, none⟩ = some (.int .i64 t.at_)) (by kernel_rfl) hS (fun hH0 => ?_)
   refine Hd.tk 0 1 hH0 ?_ (hQ := fun c a w h => panic_put c _ _ a w h)
   refine Hd.tk 1 6 hH0 ?_ (hQ := fun c a w h => panic_put c _ _ a w h)
   refine Hd.tk 2 3 hH0 ?_ (hQ := fun c a w h => panic_put c _ _ a w h)
   refine Hd.tk 3 4 hH0 ?_ (hQ := fun c a w h => panic_put c _ _ a w h)
   refine Hd.tk 4 5 hH0 ?_ (hQ := fun c a w h => panic_put c _ _ a w h)
   refine Hd.tk 5 6 hH0 ?_ (hQ := fun c a w h => panic_put c _ _ a w h)
   refine Hd.tk 6 7 hH0 ?_ (hQ := fun c a w h => panic_put c _ _ a w h)
   refine Hd.tk 7 8 hH0 ?_ (hQ := fun c a w h => panic_put c _ _ a w h)
   refine Hd.la 8 (fun K hK => ?_)
   go_simp
   all_goals exact ⟨rfl, rfl, Mv.of_bel (hb.trans ((below_alloc_drew _ _).mono hs))⟩
 rw [if_neg hk]
 go_enter Tryz.func101, Tryz.ntmps101
 go_wp2_with fail
 refine HN.out.mono ?_; rintro e w1 ⟨rfl, hb⟩
 go_wp2_with fail
 exact ⟨rfl, rfl, Mv.of_bel (hb.trans ((alloc_bel _ _).mono hb.size))⟩
set_option maxRecDepth 100000 in
set_option maxHeartbeats 1600000 in
theorem next_any (h : Pr b L tb tc bad a d w) (ha : a < L.length) (hl : L.length ≤ 1100000) : Calls Tryz.prog 98 #[.pointer (some ⟨b, 0, none⟩)] w (Trn b L tb tc bad (a + 1) d (ptV (now L a)) w) := by
 have HN := fun w' (hb : Below w.heap.size w w') => now_any (h.bel hb) ha
 have HB := fun w' (hb : Below w.heap.size w w') => h.bel hb
 have hbl0 := h.blk.lt
 have htb0 := h.lt
 obtain ⟨t, ht⟩ : ∃ t, now L a = t := ⟨_, rfl⟩
 rw [ht] at HN
 rw [ht]
 replace HN := Lib.hid HN
 replace HB := Lib.hid HB
 have w1 : IntKind.i64.wrap ((a : Int) + 1) = (a : Int) + 1 := IntWalk.i64_in _ (by omega)
 clear h ht
 unfold ptV at HN ⊢
 go_enter Tryz.func98, Tryz.ntmps98
 go_wp2_with fail
 refine (HN.out _ (alloc_bel w _)).mono ?_; rintro e w2 ⟨rfl, hb⟩
 have hs := hb.size
 have hbw := (alloc_bel w (.cells #[.int .i64 0, .string ⟨#[]⟩, .int .i64 0, .int .i64 0] KT)).trans (hb.mono (by simp))
 have hP := HB.out w2 hbw
 have hR : Blk KT w.heap.size #[.int .i64 0, .string ⟨#[]⟩, .int .i64 0, .int .i64 0] w2 := (Blk.made w).below hb (by simp)
 have c2 := hP.c2
 have f2 := hP.blk.fz 2
 have r0 := hR.c 0 _ rfl
 have r1 := hR.c 1 _ rfl
 have r2 := hR.c 2 _ rfl
 have r3 := hR.c 3 _ rfl
 have rf := hR.fz
 have hbl := hP.blk.lt
 have hrl := hR.lt
 have hbn := hbl0
 have n1 : ¬ b = w2.heap.size := by omega
 have n2 : ¬ w.heap.size = w2.heap.size := by omega
 have n3 : ¬ w.heap.size = b := by omega
 have n4 : ¬ b = w.heap.size := by omega
 have hpt := hP.lt
 have htb := hP.ne
 have htl : tb < w.heap.size := htb0
 have n5 : ¬ tb = w.heap.size := by omega
 have n6 : b ≠ w.heap.size := by omega
 have hP3 := hP.setA (a + 1)
 have hm := Mv.of_bel (b := b) hbw
 go_wp2_with fail
 refine bodyPost_ret (v := .agg #[.int .i64 t.kind, .string ⟨t.word.toArray⟩, .int .i64 t.num, .int .i64 t.at_]) (by simp [results, Tryz.results98, go_sem, r0, r1, r2, r3, hrl]) rfl ⟨rfl, ?_, ?_⟩
 · exact ((((hP3.far (p := ⟨w.heap.size, 0, none⟩) n6 n5 _).far (p := ⟨w.heap.size, 1, none⟩) n6 n5 _).far (p := ⟨w.heap.size, 2, none⟩) n6 n5 _).far (p := ⟨w.heap.size, 3, none⟩) n6 n5 _).alloc _
 exact (((((hm.set_ 2 _).new (p := ⟨w.heap.size, 0, none⟩) (Nat.le_refl _) _).new (p := ⟨w.heap.size, 1, none⟩) (Nat.le_refl _) _).new (p := ⟨w.heap.size, 2, none⟩) (Nat.le_refl _) _).new (p := ⟨w.heap.size, 3, none⟩) (Nat.le_refl _) _).alloc _
set_option maxRecDepth 100000 in
set_option maxHeartbeats 1600000 in
theorem take_any (h : Pr b L tb tc bad a d w) (ha : a < L.length) (hl : L.length ≤ 1100000) (k : Int) :
  Calls Tryz.prog 99 #[.pointer (some ⟨b, 0, none⟩), .int .i64 k] w (fun e w' => if isK L k a then Trn b L tb tc bad (a + 1) d (ptV (now L a)) w e w' else Fel b (stopE L bad a) w e w') := by
 have hX := alloc_bel w (.cells #[.int .i64 0, .string ⟨#[]⟩, .int .i64 0, .int .i64 0] KT)
 have HI := is_any (h.bel hX) ha k
 have HS := fun w' (hb : Below w.heap.size w w') => stop_any (h.bel hb) ha
 have HN := fun w' (hb : Below w.heap.size w w') => next_any (h.bel hb) ha hl
 have hbl := h.blk.lt
 have htl := h.lt
 obtain ⟨q, hq⟩ : ∃ t, isK L k a = t := ⟨_, rfl⟩
 obtain ⟨t, ht⟩ : ∃ t, now L a = t := ⟨_, rfl⟩
 rw [hq] at HI
 rw [ht] at HN
 rw [hq, ht]
 replace HI := Lib.hid HI
 replace HS := Lib.hid HS
 replace HN := Lib.hid HN
 replace hX := Lib.hid hX
 clear h hq ht
 unfold ptV at HN ⊢
 cases q with
 | false =>
  simp only [Bool.false_eq_true, if_false]
  go_enter Tryz.func99, Tryz.ntmps99
  go_wp2_with fail
  refine HI.out.mono ?_; rintro e w1 ⟨rfl, hb⟩
  go_wp2_with fail
  refine (HS.out w1 (hX.out.trans (hb.mono (by simp)))).mono ?_; rintro e w2 ⟨rfl, hm⟩
  go_wp2_with fail
  exact ⟨rfl, rfl, (Mv.of_bel (hX.out.trans (hb.mono (by simp)))).trans hm⟩
 | true =>
  simp only [if_true]
  go_enter Tryz.func99, Tryz.ntmps99
  go_wp2_with fail
  refine HI.out.mono ?_; rintro e w1 ⟨rfl, hb⟩
  go_wp2_with fail
  have hb1 := hX.out.trans (hb.mono (by simp))
  refine (HN.out w1 hb1).mono ?_; rintro e w2 ⟨rfl, hP, hm⟩
  have hR : Blk KT w.heap.size #[.int .i64 0, .string ⟨#[]⟩, .int .i64 0, .int .i64 0] w2 := by
   have h1 : Blk KT w.heap.size #[.int .i64 0, .string ⟨#[]⟩, .int .i64 0, .int .i64 0] w1 := (Blk.made w).below hb (by simp)
   exact (hm.block _ h1.lt (by omega)).trans h1
  have r0 := hR.c 0 _ rfl
  have r1 := hR.c 1 _ rfl
  have r2 := hR.c 2 _ rfl
  have r3 := hR.c 3 _ rfl
  have rf := hR.fz
  have n5 : tb ≠ w.heap.size := by omega
  have n6 : b ≠ w.heap.size := by omega
  have hmm := (Mv.of_bel (b := b) hb1).trans hm
  go_wp2_with fail
  refine bodyPost_ret (v := .agg #[.int .i64 t.kind, .string ⟨t.word.toArray⟩, .int .i64 t.num, .int .i64 t.at_]) (by simp [results, Tryz.results99, go_sem, r0, r1, r2, r3]) rfl ⟨rfl, ?_, ?_⟩
  · exact (((hP.far (p := ⟨w.heap.size, 0, none⟩) n6 n5 _).far (p := ⟨w.heap.size, 1, none⟩) n6 n5 _).far (p := ⟨w.heap.size, 2, none⟩) n6 n5 _).far (p := ⟨w.heap.size, 3, none⟩) n6 n5 _
  exact (((hmm.new (p := ⟨w.heap.size, 0, none⟩) (Nat.le_refl _) _).new (p := ⟨w.heap.size, 1, none⟩) (Nat.le_refl _) _).new (p := ⟨w.heap.size, 2, none⟩) (Nat.le_refl _) _).new (p := ⟨w.heap.size, 3, none⟩) (Nat.le_refl _) _
set_option maxRecDepth 100000 in
set_option maxHeartbeats 1600000 in
theorem takeOp_any (h : Pr b L tb tc bad a d w) (ha : a < L.length) (hl : L.length ≤ 1100000) (wd : Bs.Bytes) :
  Calls Tryz.prog 103 #[.pointer (some ⟨b, 0, none⟩), .string ⟨wd.toArray⟩] w (fun e w' => if opB L wd a then Trn b L tb tc bad (a + 1) d (.tuple #[]) w e w' else Fel b (stopE L bad a) w e w') := by
 have HI := op_any h ha wd
 have HS := fun w' (hb : Below w.heap.size w w') => stop_any (h.bel hb) ha
 have HB := fun w' (hb : Below w.heap.size w w') => h.bel hb
 obtain ⟨q, hq⟩ : ∃ t, opB L wd a = t := ⟨_, rfl⟩
 rw [hq] at HI
 rw [hq]
 replace HI := Lib.hid HI
 replace HS := Lib.hid HS
 replace HB := Lib.hid HB
 clear h hq
 cases q with
 | false =>
  simp only [Bool.false_eq_true, if_false]
  go_enter Tryz.func103, Tryz.ntmps103
  go_wp2_with fail
  refine HI.out.mono ?_; rintro e w1 ⟨rfl, hb⟩
  go_wp2_with fail
  refine (HS.out w1 hb).mono ?_; rintro e w2 ⟨rfl, hm⟩
  go_wp2_with fail
  exact ⟨rfl, rfl, (Mv.of_bel hb).trans hm⟩
 | true =>
  simp only [if_true]
  go_enter Tryz.func103, Tryz.ntmps103
  go_wp2_with fail
  refine HI.out.mono ?_; rintro e w1 ⟨rfl, hb⟩
  have hP := HB.out w1 hb
  have c2 := hP.c2
  have f2 := hP.blk.fz 2
  have w1' : IntKind.i64.wrap ((a : Int) + 1) = (a : Int) + 1 := IntWalk.i64_in _ (by omega)
  go_wp2_with fail
  go_returns
  exact ⟨rfl, hP.setA (a + 1), (Mv.of_bel hb).set_ 2 _⟩
end
end Pa
end Go.Proofs.YtmmgfifpjifjnaaGreatDoor
namespace Go.Proofs.YtmmgfifpjifjnaaGreatDoor
open Go.RowKit
namespace Pa
open Bs Sm Tr
open Lx (Mv)
section
variable {b : Nat} {L : List Pt} {tb tc : Nat} {bad : Int} {a d : Nat} {w w' w0 : World}
def atP (b : Nat) (w : World) : Nat := match w.cell? ⟨b, 2, none⟩ with | some (.int _ n) => n.toNat | _ => 0
theorem Pr.at_ (h : Pr b L tb tc bad a d w) : atP b w = a := by unfold atP; rw [h.c2]; simp
theorem own_mv {base e size n : Nat} {v : Value} {xs : List Value} (h : w.ownsRow base e size v n xs) (hm : Mv b w w') (hb : b < base) : w'.ownsRow base e size v n xs := by
 obtain ⟨h1, h2⟩ := h
 refine ⟨h1, ?_⟩
 rcases h2 with hn | ⟨g, cap, cur, rfl, hbg, hg, rest⟩
 · exact .inl hn
 exact .inr ⟨g, cap, cur, rfl, hbg, (hm.block g (Array.getElem?_eq_some_iff.1 hg).1 (by omega)).trans hg, rest⟩
theorem Mv.grown {o : Option Nat} (h : Mv b w0 w) (hg : w.grownBy w' o) (ho : ∀ k, o = some k → w0.heap.size ≤ k) : Mv b w0 w' :=
 ⟨hg.os.trans h.os, hg.tape.trans h.tape, hg.output.trans h.output, Nat.le_trans h.size hg.size, fun k hk hne => (hg.block k (Nat.lt_of_lt_of_le hk h.size) (fun e => by have := ho k e.symm; omega)).trans (h.block k hk hne)⟩
theorem Pr.grown {o : Option Nat} (h : Pr b L tb tc bad a d w) (hg : w.grownBy w' o) (h1 : o ≠ some b) (h2 : o ≠ some tb) : Pr b L tb tc bad a d w' :=
 ⟨(hg.block b h.blk.lt (fun e => h1 e.symm)).trans h.blk, h.ne, Nat.lt_of_lt_of_le h.lt hg.size, fun i hi => (h.tok i hi).kp (fun j => World.cell?_of_block (hg.block tb h.lt (fun e => h2 e.symm))), h.cap⟩
theorem names_round (hL : LOk L) {f a : Nat} {out : List Bs.Bytes} {E : PE (List Bs.Bytes × Nat)} (ha : a < L.length) (hf : L.length - a < f) (h : namesP L bad f a out = E) :
  (opB L [124] a = true → a + 1 < L.length ∧ E = .ok (out, a + 1)) ∧ (opB L [124] a = false → (isK L 1 a = false → E = .error (stopE L bad a)) ∧ (isK L 1 a = true → a + 1 < L.length ∧ ∃ f', L.length - (a + 1) < f' ∧ namesP L bad f' (a + 1) (out ++ [(now L a).word]) = E)) := by
 cases f with
 | zero => omega
 | succ f =>
  unfold namesP at h
  refine ⟨fun ho => ?_, fun ho => ⟨fun hk => ?_, fun hk => ?_⟩⟩
  · rw [if_pos ho] at h; exact ⟨hL.next (opB_k ho) (by omega) ha, h.symm⟩
  · rw [if_neg (by rw [ho]; simp)] at h
    unfold takeP at h
    rw [if_neg (by rw [hk]; simp)] at h
    exact h.symm
  rw [if_neg (by rw [ho]; simp)] at h
  unfold takeP at h
  rw [if_pos hk] at h
  exact ⟨hL.next hk (by omega) ha, f, by omega, h⟩
set_option maxRecDepth 100000 in
set_option maxHeartbeats 3200000 in
theorem names_any (hL : LOk L) (h : Pr b L tb tc bad a d w) (ha : a < L.length) :
  Calls Tryz.prog 104 #[.pointer (some ⟨b, 0, none⟩)] w (SsO b L tb tc bad d (New w) (namesP L bad (L.length + 1) a []) w) := by
 have hlen := hL.len
 obtain ⟨E, hE⟩ : ∃ E, namesP L bad (L.length + 1) a [] = E := ⟨_, rfl⟩
 have hbl := h.blk.lt
 have htl := h.lt
 rw [hE]
 obtain ⟨iI, hiI, hI0, hI1, hI2⟩ := info_parts (show (Tryz.prog.info? 9).map (fun i => (i.zero, i.size, i.bytes)) = some (some (.string ⟨#[]⟩), 1, 16) by kernel_rfl)
 have tI : Tryz.prog.underlying 22 = some (.slice 9) := by kernel_rfl
 have HE := Lib.hid hE
 have HL := Lib.hid hL
 have HP := Lib.hid h
 clear hE hL h
 go_enter Tryz.func104, Tryz.ntmps104
 go_wp2_with fail
 go_loopw [3] (fun o wr => ∃ (k f : Nat) (out : List Bs.Bytes), k < L.length ∧ out.length ≤ k ∧ L.length - k < f ∧ Hid (namesP L bad f k out = E) ∧ wr.ownsRow w.heap.size 9 1 o out.length (out.map strV) ∧ Hid (Pr b L tb tc bad k d wr) ∧ Mv b w wr) (fun _ wr => L.length - atP b wr)
 case atStart => exact ⟨a, L.length + 1, [], ha, Nat.zero_le _, by omega, HE, World.ownsRow_nil w _ _ _, HP, Mv.refl _ _⟩
 obtain ⟨k, f, out, hk, hok, hf, HEk, hown, HPk, hmv⟩ := hrel
 have hatk := HPk.out.at_
 have hrd := names_round HL.out hk hf HEk.out
 have HO := Lib.hid (op_any HPk.out hk [124])
 have HT := fun w' (hb : Below wr.heap.size wr w') => take_any (HPk.out.bel hb) hk hlen 1
 obtain ⟨q, hq⟩ : ∃ t, opB L [124] k = t := ⟨_, rfl⟩
 obtain ⟨r, hr⟩ : ∃ t, isK L 1 k = t := ⟨_, rfl⟩
 obtain ⟨t, ht⟩ : ∃ t, now L k = t := ⟨_, rfl⟩
 rw [hq] at hrd HO
 rw [hr, ht] at hrd HT
 replace HT := Lib.hid HT
 have HRD := Lib.hid hrd
 clear hq hr ht hrd HEk
 go_wp2_with fail
 refine HO.out.mono ?_; rintro e w1 ⟨rfl, hb1⟩
 cases q with
 | true =>
  obtain ⟨hk1, hEE⟩ := HRD.out.1 (by first | rfl | trivial)
  have hP1 := HPk.out.bel hb1
  have c2 := hP1.c2
  have f2 := hP1.blk.fz 2
  have w1' : IntKind.i64.wrap ((k : Int) + 1) = (k : Int) + 1 := IntWalk.i64_in _ (by omega)
  go_wp2_with fail
  go_ret
  rw [hEE]
  have hbs := hmv.size
  refine ⟨_, ?_, rfl, hP1.setA (k + 1), (hmv.trans (Mv.of_bel hb1)).set_ 2 _⟩
  exact (((Rd.of hown).below hb1).kp (Mv.kp ((Mv.refl b w1).set_ 2 _) (by intro h; omega)))
 | false =>
  obtain ⟨h1, h2⟩ := HRD.out.2 (by first | rfl | trivial)
  have H1 := Lib.hid h1
  have H2 := Lib.hid h2
  clear h1 h2 HRD
  go_wp2_with fail
  refine (HT.out w1 hb1).mono ?_; intro e w2 ht
  cases r with
  | false =>
   simp only [Bool.false_eq_true, if_false] at ht
   obtain ⟨rfl, hm2⟩ := ht
   go_wp2_with fail
   rw [H1.out (by first | rfl | trivial)]
   exact ⟨rfl, rfl, (hmv.trans (Mv.of_bel hb1)).trans hm2⟩
  | true =>
   simp only [if_true] at ht
   obtain ⟨rfl, hP2, hm2⟩ := ht
   obtain ⟨hk1, f', hf', HE'⟩ := H2.out (by first | rfl | trivial)
   have HE' := Lib.hid HE'
   have hm := (hmv.trans (Mv.of_bel hb1)).trans hm2
   have hs1 := hmv.size
   have hs2 := hm.size
   have hown2 := own_mv (own_below hown hb1) hm2 hbl
   have F1 := fld1
   unfold ptV
   obtain ⟨tw, htw⟩ : ∃ s, t.word = s := ⟨_, rfl⟩
   rw [htw] at HE' ⊢
   clear htw hown
   go_wp2_with (at_builtin; refine wpList_append_own _ rfl _ _ 22 rfl w.heap.size 9 iI (.string ⟨#[]⟩) 1 16 tI hiI hI0 hI1 hI2 rfl (by decide) _ _ _ rfl (hown2.alloc _) ⟨w2.heap.size, 0, none⟩ 1 1 [.string ⟨tw.toArray⟩] rfl rfl ?c1 ?c2 ?c3 ?c4 ?c5 ?_)
   case c1 => intro j u hj; match j, hj with | 0, hj => simp at hj; subst hj; simp [Addr.add] | n + 1, hj => simp at hj
   case c2 => intro u hu; simp at hu; subst hu; rfl
   case c3 => unfold maxLen; omega
   case c4 => omega
   case c5 => simp; omega
   intro v' w3 hown' hgrow _
   have hg1 : ∀ k, u3.ownBlock = some k → w.heap.size ≤ k := fun k hk => (hown2.lt k hk).1
   have hP3 := Lib.hid ((hP2.alloc _).grown hgrow (fun e => by have := hg1 _ e; omega) (fun e => by have := hg1 _ e; omega))
   have hm3 := Mv.grown (hm.alloc _) hgrow hg1
   have hat3 := hP3.out.at_
   clear hown2 hgrow hP2 hm hg1
   go_wp2_with fail
   exact ⟨⟨k + 1, f', out ++ [tw], hk1, by simp; omega, hf', HE', (by rw [List.length_append, List.map_append]; exact hown'), hP3, hm3⟩, by rw [hat3]; omega⟩
set_option maxRecDepth 100000 in
set_option maxHeartbeats 1600000 in
theorem vars_any (hL : LOk L) (h : Pr b L tb tc bad a d w) (ha : a < L.length) :
  Calls Tryz.prog 63 #[.pointer (some ⟨b, 0, none⟩)] w (SsO b L tb tc bad d (New w) (varsP L bad (L.length + 1) a) w) := by
 have hlen := hL.len
 have hbl := h.blk.lt
 have HO := Lib.hid (op_any h ha [124])
 have HP := fun w' (hb : Below w.heap.size w w') => h.bel hb
 unfold varsP
 obtain ⟨q, hq⟩ : ∃ t, opB L [124] a = t := ⟨_, rfl⟩
 have hnx : q = true → a + 1 < L.length := fun h1 => hL.next (opB_k (hq.trans h1)) (by omega) ha
 rw [hq] at HO
 rw [hq]
 replace HP := Lib.hid HP
 have HL := Lib.hid hL
 clear h hL hq
 cases q with
 | false =>
  go_enter Tryz.func63, Tryz.ntmps63
  go_wp2_with fail
  refine HO.out.mono ?_; rintro e w1 ⟨rfl, hb⟩
  go_wp2_with fail
  go_ret
  exact ⟨_, ⟨none, 0, rfl, Nat.le_refl _, by unfold maxLen; omega, fun _ => rfl, fun h => by simp at h⟩, rfl, HP.out w1 hb, Mv.of_bel hb⟩
 | true =>
  have hk1 := hnx rfl
  have hP1 := fun w' (hb : Below w.heap.size w w') => (HP.out w' hb).setA (a + 1)
  obtain ⟨E, hE⟩ : ∃ E, namesP L bad (L.length + 1) (a + 1) [] = E := ⟨_, rfl⟩
  have HN := fun w' (hb : Below w.heap.size w w') => names_any HL.out (hP1 w' hb) hk1
  rw [hE] at HN
  rw [if_pos rfl, hE]
  replace HN := Lib.hid HN
  clear hP1 hE hnx
  go_enter Tryz.func63, Tryz.ntmps63
  go_wp2_with fail
  refine HO.out.mono ?_; rintro e w1 ⟨rfl, hb⟩
  have hP := HP.out w1 hb
  have c2 := hP.c2
  have f2 := hP.blk.fz 2
  have w1' : IntKind.i64.wrap ((a : Int) + 1) = (a : Int) + 1 := IntWalk.i64_in _ (by omega)
  have hs := hb.size
  go_wp2_with fail
  refine (HN.out w1 hb).mono ?_; intro e w2 ht
  have hm1 : Mv b w (w1.setCell ⟨b, 2, none⟩ (.int .i64 ((a + 1 : Nat) : Int))) := (Mv.of_bel hb).set_ 2 _
  cases E with
  | error x =>
   obtain ⟨rfl, hm⟩ := ht
   go_wp2_with fail
   exact ⟨rfl, rfl, hm1.trans hm⟩
  | ok y =>
   obtain ⟨l, a1⟩ := y
   obtain ⟨v, hv, rfl, hP2, hm⟩ := ht
   go_wp2_with fail
   go_ret
   exact ⟨_, hv.mono (fun j hj _ => by unfold New at hj ⊢; simp [World.setCell] at hj; omega), rfl, hP2, hm1.trans hm⟩
def negB (L : List Pt) (a : Nat) : Bool := opB L [45] a && (ahead L a).kind == 3 && (ahead L a).at_ == (now L a).at_ + 1
set_option maxRecDepth 100000 in
set_option maxHeartbeats 1600000 in
theorem negative_any (hL : LOk L) (h : Pr b L tb tc bad a d w) (ha : a < L.length) :
  Calls Tryz.prog 205 #[.pointer (some ⟨b, 0, none⟩)] w (Back (.bool (negB L a)) w) := by
 have hlen := hL.len
 have hat := hL.at_ a ha
 have HO := Lib.hid (op_any h ha [45])
 have HA := fun w' (hb : Below w.heap.size w w') => ahead_any (h.bel hb) hL.pos hlen (by omega)
 have HN := fun w' (hb : Below w.heap.size w w') => now_any (h.bel hb) ha
 unfold negB
 obtain ⟨q, hq⟩ : ∃ t, opB L [45] a = t := ⟨_, rfl⟩
 obtain ⟨t, ht⟩ : ∃ t, now L a = t := ⟨_, rfl⟩
 obtain ⟨u, hu⟩ : ∃ t, ahead L a = t := ⟨_, rfl⟩
 rw [hq] at HO
 rw [ht] at HN hat
 rw [hu] at HA
 rw [hq, ht, hu]
 replace HA := Lib.hid HA
 replace HN := Lib.hid HN
 clear h hL hq ht hu
 unfold ptV at HA HN
 have F0 := fld0
 have F3 := fld3
 have w1' : IntKind.i64.wrap (t.at_ + 1) = t.at_ + 1 := IntWalk.i64_in _ (by omega)
 cases q with
 | false =>
  go_enter Tryz.func205, Tryz.ntmps205
  go_wp2_with fail
  refine HO.out.mono ?_; rintro e w1 ⟨rfl, hb⟩
  go_wp2_with fail
  go_ret
  exact ⟨by simp, hb⟩
 | true =>
  obtain ⟨q2, hq2⟩ : ∃ q, (u.kind == 3) = q := ⟨_, rfl⟩
  cases q2 with
  | false =>
   go_enter Tryz.func205, Tryz.ntmps205
   go_wp2_with fail
   refine HO.out.mono ?_; rintro e w1 ⟨rfl, hb⟩
   go_wp2_with fail
   refine (HA.out w1 hb).mono ?_; rintro e w2 ⟨rfl, hb2⟩
   go_wp2_with fail
   go_ret
   exact ⟨by rw [hq2]; simp, hb.trans (hb2.mono hb.size)⟩
  | true =>
   go_enter Tryz.func205, Tryz.ntmps205
   go_wp2_with fail
   refine HO.out.mono ?_; rintro e w1 ⟨rfl, hb⟩
   go_wp2_with fail
   refine (HA.out w1 hb).mono ?_; rintro e w2 ⟨rfl, hb2⟩
   go_wp2_with fail
   have hbb := hb.trans (hb2.mono hb.size)
   refine (HA.out w2 hbb).mono ?_; rintro e w3 ⟨rfl, hb3⟩
   go_wp2_with fail
   have hb4 := hbb.trans (hb3.mono hbb.size)
   refine (HN.out w3 hb4).mono ?_; rintro e w4 ⟨rfl, hb5⟩
   go_wp2_with fail
   go_ret
   exact ⟨by rw [hq2]; simp, hb4.trans (hb5.mono hb4.size)⟩
end
end Pa
end Go.Proofs.YtmmgfifpjifjnaaGreatDoor
namespace Go.Proofs.YtmmgfifpjifjnaaGreatDoor
open Go.RowKit
namespace Pa
open Bs Sm Tr
open Lx (Mv)
abbrev NDT : Nat := 94
section
variable {b : Nat} {L : List Pt} {tb tc : Nat} {bad : Int} {a d : Nat} {w w' w0 : World}
theorem rd_none (S : Nat → Prop) (w : World) : Rd S strV w (.slice none 0 0) [] := ⟨none, 0, rfl, Nat.le_refl _, by unfold maxLen; omega, fun _ => rfl, fun h => by simp at h⟩
theorem NdAt.leaf (S : Nat → Prop) (w : World) (k n at_ : Int) (nm : Bs.Bytes) : NdAt S w (.agg #[.int .i64 k, .string ⟨nm.toArray⟩, .int .i64 n, .slice none 0 0, .slice none 0 0, .int .i64 at_]) (.mk k nm n [] [] at_) :=
 ⟨_, _, rfl, Tree.nil _ _, rd_none _ _⟩
set_option maxRecDepth 100000 in
set_option maxHeartbeats 1600000 in
theorem send_any (t : Pt) (nm : ByteArray) (ka : Option Addr) (kl kc : Nat) (w : World) :
  Calls Tryz.prog 179 #[ptV t, .string nm, .slice ka kl kc] w (Back (.agg #[.int .i64 7, .string nm, .int .i64 0, .slice ka kl kc, .slice none 0 0, .int .i64 t.at_]) w) := by
 unfold ptV
 go_enter Tryz.func179, Tryz.ntmps179
 go_wp2_with fail
 refine bodyPost_ret (v := .agg #[.int .i64 7, .string nm, .int .i64 0, .slice ka kl kc, .slice none 0 0, .int .i64 t.at_]) (by simp [results, Tryz.results179, go_sem]) rfl ⟨rfl, ?_⟩
 exact ((alloc_bel w _).trans ((alloc_bel _ _).mono (by simp)))
def simpleB (L : List Pt) (a : Nat) : Nd × Bool × Nat :=
 match simpleP L a with
 | some x => (x.1, true, x.2)
 | none => (.mk 0 (now L a).word (now L a).num [] [] (now L a).at_, false, a)
theorem simple_neg (hn : negB L a = true) : simpleB L a = (.mk 1 [] (-(now L (a + 1)).num) [] [] (now L a).at_, true, a + 2) := by
 unfold simpleB simpleP
 unfold negB at hn
 simp only [hn, if_true]
theorem simple_pos (hn : negB L a = false) : simpleB L a = (if (now L a).kind = 3 then (.mk 1 (now L a).word (now L a).num [] [] (now L a).at_, true, a + 1) else if (now L a).kind = 4 then (.mk 2 (now L a).word (now L a).num [] [] (now L a).at_, true, a + 1)
  else if (now L a).kind = 5 then (.mk 3 (now L a).word (now L a).num [] [] (now L a).at_, true, a + 1) else (.mk 0 (now L a).word (now L a).num [] [] (now L a).at_, false, a)) := by
 unfold simpleB simpleP
 unfold negB at hn
 simp only [hn, Bool.false_eq_true, if_false]
 by_cases h3 : (now L a).kind = 3
 · rw [if_pos h3, if_pos h3]
 rw [if_neg h3, if_neg h3]
 by_cases h4 : (now L a).kind = 4
 · rw [if_pos h4, if_pos h4]
 rw [if_neg h4, if_neg h4]
 by_cases h5 : (now L a).kind = 5
 · rw [if_pos h5, if_pos h5]
 rw [if_neg h5, if_neg h5]
set_option maxRecDepth 100000 in
set_option maxHeartbeats 3200000 in
theorem simple_any (hL : LOk L) (h : Pr b L tb tc bad a d w) (ha : a < L.length) :
  Calls Tryz.prog 200 #[.pointer (some ⟨b, 0, none⟩)] w (NbO b L tb tc bad d (New w) (.ok (simpleB L a)) w) := by
 have hlen := hL.len
 have hbl := h.blk.lt
 have htl := h.lt
 have hX := alloc_bel w (.cells #[.int .i64 0, .string ⟨#[]⟩, .int .i64 0, .slice none 0 0, .slice none 0 0, .int .i64 0] NDT)
 have HN := Lib.hid (now_any (h.bel hX) ha)
 have HM := fun w' (hb : Below w.heap.size w w') => negative_any hL (h.bel hb) ha
 have HP := fun w' (hb : Below w.heap.size w w') => h.bel hb
 have hneg : negB L a = false := by unfold negB; rw [(hL.pl a ha).2.2.2.2]; rfl
 have hnum : a + 1 < L.length → 0 ≤ (now L (a + 1)).num ∧ (now L (a + 1)).num ≤ 4611686018427387904 := fun h => hL.num _ h
 have HS := fun (h : negB L a = true) => simple_neg h
 have HR := fun (h : negB L a = false) => simple_pos h
 obtain ⟨B, hB⟩ : ∃ B, simpleB L a = B := ⟨_, rfl⟩
 obtain ⟨q, hq⟩ : ∃ t, negB L a = t := ⟨_, rfl⟩
 obtain ⟨t, ht⟩ : ∃ t, now L a = t := ⟨_, rfl⟩
 rw [hB] at HS HR
 rw [hq] at HM hneg HS HR
 rw [ht] at HN HS HR
 rw [hB]
 replace HM := Lib.hid HM
 replace HP := Lib.hid HP
 replace HX := Lib.hid hX
 clear hX hq ht hB
 unfold ptV at HN
 cases q with
 | true => cases hneg
 | false =>
  have HRE := Lib.hid (HR rfl)
  clear HS HR hneg hnum hL
  go_enter Tryz.func200, Tryz.ntmps200
  go_wp2_with fail
  refine HN.out.mono ?_; rintro e w1 ⟨rfl, hb1⟩
  have hs1 := hb1.size
  have hw1 := HX.out.trans (hb1.mono (by simp))
  simp only [World.size_alloc] at hs1
  go_wp2_with fail
  have hb1' : Below w1.heap.size w1 ((w1.alloc (.cells #[.int .i64 t.kind, .string ⟨t.word.toArray⟩, .int .i64 t.num, .int .i64 t.at_] KT)).alloc (.cells #[.int .i64 0, .string ⟨t.word.toArray⟩, .int .i64 t.num, .slice none 0 0, .slice none 0 0, .int .i64 t.at_] NDT)) := (alloc_bel w1 _).trans ((alloc_bel _ _).mono (by simp))
  refine (HM.out _ (hw1.trans (hb1'.mono hw1.size))).mono ?_; rintro e w2 ⟨rfl, hb2⟩
  have hw2 := (hw1.trans (hb1'.mono hw1.size)).trans (hb2.mono (by simp; omega))
  have hz2 := hb2.size
  simp only [World.size_alloc] at hz2
  have B2 : Blk NDT w.heap.size #[.int .i64 0, .string ⟨#[]⟩, .int .i64 0, .slice none 0 0, .slice none 0 0, .int .i64 0] w2 := by
   have e1 := (Blk.made (T := NDT) (cs := #[.int .i64 0, .string ⟨#[]⟩, .int .i64 0, .slice none 0 0, .slice none 0 0, .int .i64 0]) w).below hb1 (by simp)
   exact ((e1.alloc _).alloc _).below hb2 (by simp; omega)
  have B4 : Blk KT w1.heap.size #[.int .i64 t.kind, .string ⟨t.word.toArray⟩, .int .i64 t.num, .int .i64 t.at_] w2 := ((Blk.made w1).alloc _).below hb2 (by simp; omega)
  have B5 : Blk NDT (w1.heap.size + 1) #[.int .i64 0, .string ⟨t.word.toArray⟩, .int .i64 t.num, .slice none 0 0, .slice none 0 0, .int .i64 t.at_] w2 := by
   have e1 := Blk.made (T := NDT) (cs := #[.int .i64 0, .string ⟨t.word.toArray⟩, .int .i64 t.num, .slice none 0 0, .slice none 0 0, .int .i64 t.at_]) (w1.alloc (.cells #[.int .i64 t.kind, .string ⟨t.word.toArray⟩, .int .i64 t.num, .int .i64 t.at_] KT))
   rw [World.size_alloc] at e1
   exact e1.below hb2 (by simp)
  have hP2 := HP.out w2 hw2
  have HP2 := Lib.hid hP2
  have c2 := hP2.c2
  have f2 := hP2.blk.fz 2
  have wa : IntKind.i64.wrap ((a : Int) + 1) = (a : Int) + 1 := IntWalk.i64_in _ (by omega)
  have d0 := B4.c 0 _ rfl
  have d3 := B4.c 3 _ rfl
  have r0 := B2.c 0 _ rfl
  have r1 := B2.c 1 _ rfl
  have r2 := B2.c 2 _ rfl
  have r3 := B2.c 3 _ rfl
  have r4 := B2.c 4 _ rfl
  have r5 := B2.c 5 _ rfl
  have e0 := B5.c 0 _ rfl
  have e1 := B5.c 1 _ rfl
  have e2 := B5.c 2 _ rfl
  have e3 := B5.c 3 _ rfl
  have e4 := B5.c 4 _ rfl
  have e5 := B5.c 5 _ rfl
  have rf := B2.fz
  have ef := B5.fz
  have n1 : ¬ w.heap.size = b := by omega
  have n2 : ¬ w1.heap.size + 1 = b := by omega
  have n3 : ¬ b = w.heap.size := by omega
  have n4 : ¬ b = w1.heap.size + 1 := by omega
  have n5 : ¬ w1.heap.size = w1.heap.size + 1 := by omega
  have n6 : ¬ w.heap.size = w1.heap.size + 1 := by omega
  have n7 : ¬ w1.heap.size + 1 = w.heap.size := by omega
  have HW2 := Lib.hid hw2
  clear B4 B5 hb2 hb1' hb1 hP2 hw2
  by_cases h3 : t.kind = 3
  · have hd : (t.kind == 3) = true := by simp [h3]
    go_wp2_with fail
    refine bodyPost_ret (v := .tuple #[.agg #[.int .i64 1, .string ⟨t.word.toArray⟩, .int .i64 t.num, .slice none 0 0, .slice none 0 0, .int .i64 t.at_], .bool true]) (by simp [results, Tryz.results200, go_sem, r0, r1, r2, r3, r4, r5]) rfl ?_
    rw [HRE.out, if_pos h3]
    exact ⟨_, NdAt.leaf _ _ 1 t.num t.at_ t.word, rfl, pr_far6 (Pr.setA (HP2.out.far n4 (show tb ≠ w1.heap.size + 1 by omega) _) (a + 1)) (by omega) (by omega), mv_set6 (((Mv.of_bel HW2.out).new (p := ⟨w1.heap.size + 1, 0, none⟩) (by show w.heap.size ≤ w1.heap.size + 1; omega) _).set_ 2 _) (Nat.le_refl _)⟩
  have hd3 : (t.kind == 3) = false := by simp [h3]
  by_cases h4 : t.kind = 4
  · have hd : (t.kind == 4) = true := by simp [h4]
    go_wp2_with fail
    refine bodyPost_ret (v := .tuple #[.agg #[.int .i64 2, .string ⟨t.word.toArray⟩, .int .i64 t.num, .slice none 0 0, .slice none 0 0, .int .i64 t.at_], .bool true]) (by simp [results, Tryz.results200, go_sem, r0, r1, r2, r3, r4, r5]) rfl ?_
    rw [HRE.out, if_neg h3, if_pos h4]
    exact ⟨_, NdAt.leaf _ _ 2 t.num t.at_ t.word, rfl, pr_far6 (Pr.setA (HP2.out.far n4 (show tb ≠ w1.heap.size + 1 by omega) _) (a + 1)) (by omega) (by omega), mv_set6 (((Mv.of_bel HW2.out).new (p := ⟨w1.heap.size + 1, 0, none⟩) (by show w.heap.size ≤ w1.heap.size + 1; omega) _).set_ 2 _) (Nat.le_refl _)⟩
  have hd4 : (t.kind == 4) = false := by simp [h4]
  by_cases h5 : t.kind = 5
  · have hd : (t.kind == 5) = true := by simp [h5]
    go_wp2_with fail
    refine bodyPost_ret (v := .tuple #[.agg #[.int .i64 3, .string ⟨t.word.toArray⟩, .int .i64 t.num, .slice none 0 0, .slice none 0 0, .int .i64 t.at_], .bool true]) (by simp [results, Tryz.results200, go_sem, r0, r1, r2, r3, r4, r5]) rfl ?_
    rw [HRE.out, if_neg h3, if_neg h4, if_pos h5]
    exact ⟨_, NdAt.leaf _ _ 3 t.num t.at_ t.word, rfl, pr_far6 (Pr.setA (HP2.out.far n4 (show tb ≠ w1.heap.size + 1 by omega) _) (a + 1)) (by omega) (by omega), mv_set6 (((Mv.of_bel HW2.out).new (p := ⟨w1.heap.size + 1, 0, none⟩) (by show w.heap.size ≤ w1.heap.size + 1; omega) _).set_ 2 _) (Nat.le_refl _)⟩
  have hd5 : (t.kind == 5) = false := by simp [h5]
  go_wp2_with fail
  refine bodyPost_ret (v := .tuple #[.agg #[.int .i64 0, .string ⟨t.word.toArray⟩, .int .i64 t.num, .slice none 0 0, .slice none 0 0, .int .i64 t.at_], .bool false]) (by simp [results, Tryz.results200, go_sem, r0, r1, r2, r3, r4, r5]) rfl ?_
  rw [HRE.out, if_neg h3, if_neg h4, if_neg h5]
  exact ⟨_, NdAt.leaf _ _ 0 t.num t.at_ t.word, rfl, pr_far6 HP2.out (by omega) (by omega), mv_set6 (Mv.of_bel HW2.out) (Nat.le_refl _)⟩
end
end Pa
end Go.Proofs.YtmmgfifpjifjnaaGreatDoor
namespace Go.Proofs.YtmmgfifpjifjnaaGreatDoor
open Go.RowKit
namespace Pa
open Bs Sm Tr
open Lx (Mv)
def ndA (x : Nd) (ka : Option Addr) (kc : Nat) (na : Option Addr) (nc : Nat) : Array Value := #[.int .i64 x.kind, .string ⟨x.name.toArray⟩, .int .i64 x.num, .slice ka x.kids.length kc, .slice na x.names.length nc, .int .i64 x.at_]
def NBlk (S : Nat → Prop) (K : Nat) (x : Nd) (w : World) : Prop := ∃ ka kc na nc, Blk NDT K (ndA x ka kc na nc) w ∧ Tree S w (.slice ka x.kids.length kc) x.kids ∧ Rd S strV w (.slice na x.names.length nc) x.names
def z6 : Array Value := #[.int .i64 0, .string ⟨#[]⟩, .int .i64 0, .slice none 0 0, .slice none 0 0, .int .i64 0]
section
variable {b : Nat} {L : List Pt} {tb tc : Nat} {bad : Int} {a d : Nat} {w w' w0 : World} {S S' : Nat → Prop} {K : Nat} {x : Nd}
theorem NdAt.form {v : Value} (h : NdAt S w v x) : ∃ ka kc na nc, v = .agg (ndA x ka kc na nc) ∧ Tree S w (.slice ka x.kids.length kc) x.kids ∧ Rd S strV w (.slice na x.names.length nc) x.names := by
 obtain ⟨kv, nv, rfl, h1, h2⟩ := h
 obtain ⟨ka, kc, rfl, -, -⟩ := h1.form
 obtain ⟨na, nc, rfl, -, -⟩ := h2.form
 exact ⟨ka, kc, na, nc, rfl, h1, h2⟩
theorem NBlk.kp (h : NBlk S K x w) (hk : Kp S w w') (hb : w'.heap[K]? = w.heap[K]?) : NBlk S K x w' := by
 obtain ⟨ka, kc, na, nc, h1, h2, h3⟩ := h
 exact ⟨ka, kc, na, nc, hb.trans h1, h2.kp hk, h3.kp hk⟩
theorem NBlk.lt (h : NBlk S K x w) : K < w.heap.size := by obtain ⟨ka, kc, na, nc, h1, h2, h3⟩ := h; exact h1.lt
theorem NBlk.bel (h : NBlk S K x w) (hb : Below w.heap.size w w') : NBlk S K x w' := h.kp (Kp.of hb) (hb.block K h.lt)
theorem NBlk.mv (h : NBlk S K x w) (hm : Mv b w w') (hK : K ≠ b) (hS : ¬ S b) : NBlk S K x w' := h.kp (Mv.kp hm hS) (hm.block K h.lt hK)
theorem NBlk.mono (h : NBlk S K x w) (hs : ∀ k, S k → k < w.heap.size → S' k) : NBlk S' K x w := by
 obtain ⟨ka, kc, na, nc, h1, h2, h3⟩ := h
 exact ⟨ka, kc, na, nc, h1, h2.mono hs, h3.mono hs⟩
theorem tree_lit {T g : Nat} (vl : VL) (h : Blk T g (flatN vl).toArray w) (hS : S g) (hl : vl.length ≤ maxLen) (hk : ∀ x ∈ vl, Tree S w x.2.1 x.1.kids) (hn : ∀ x ∈ vl, Rd S strV w x.2.2 x.1.names) : Tree S w (.slice (some ⟨g, 0, none⟩) vl.length vl.length) (vl.map (·.1)) := by
 refine .mk vl _ vl.length (Nat.le_refl _) hl (fun h => by cases h) (fun _ => ⟨g, 0, rfl, hS, h.lt, fun i x hx => ?_⟩) hk hn
 have H : ∀ j u, (ndC x.1 x.2.1 x.2.2)[j]? = some u → w.cell? ⟨g, 0 + i * 6 + j, none⟩ = some u := fun j u hj => by
  have := flatN_get vl i x j u hx hj
  rw [Nat.zero_add]
  exact h.c _ _ (by rw [List.getElem?_toArray]; exact this)
 exact ⟨H 0 _ rfl, H 1 _ rfl, H 2 _ rfl, H 3 _ rfl, H 4 _ rfl, H 5 _ rfl⟩
theorem tree_one {T g : Nat} {ka na : Option Addr} {kc nc : Nat} (h : Blk T g (ndA x ka kc na nc) w) (hS : S g) (hk : Tree S w (.slice ka x.kids.length kc) x.kids) (hn : Rd S strV w (.slice na x.names.length nc) x.names) : Tree S w (.slice (some ⟨g, 0, none⟩) 1 1) [x] :=
 tree_lit (T := T) [(x, .slice ka x.kids.length kc, .slice na x.names.length nc)] h hS (by simp; unfold maxLen; omega) (fun y hy => by obtain rfl := List.mem_singleton.1 hy; exact hk) (fun y hy => by obtain rfl := List.mem_singleton.1 hy; exact hn)
structure PA (L : List Pt) (bad : Int) (f : Nat) : Prop where
 expr : ∀ {b tb tc a d : Nat} {w : World}, Pr b L tb tc bad a d w → a < L.length → d ≤ 40 → 16 * (L.length - a) + 7 ≤ f → Calls Tryz.prog 141 #[.pointer (some ⟨b, 0, none⟩)] w (NdO b L tb tc bad d (New w) (exprP L bad f d a) w)
 casc : ∀ {b tb tc a d : Nat} {w : World}, Pr b L tb tc bad a d w → a < L.length → d ≤ 40 → 16 * (L.length - a) + 6 ≤ f → Calls Tryz.prog 154 #[.pointer (some ⟨b, 0, none⟩)] w (NdO b L tb tc bad d (New w) (cascP L bad f d a) w)
 kws : ∀ {b tb tc a d : Nat} {w : World} {S : Nat → Prop} {v : Value} {x0 : Nd}, Pr b L tb tc bad a d w → a < L.length → d ≤ 40 → NdAt S w v x0 → ¬ S b → 16 * (L.length - a) + 1 ≤ f → Calls Tryz.prog 178 #[.pointer (some ⟨b, 0, none⟩), v] w (NdO b L tb tc bad d (fun k => S k ∨ New w k) (kwsP L bad f d a (now L a) [] [x0]) w)
 kwd : ∀ {b tb tc a d : Nat} {w : World}, Pr b L tb tc bad a d w → a < L.length → d ≤ 40 → 16 * (L.length - a) + 5 ≤ f → Calls Tryz.prog 163 #[.pointer (some ⟨b, 0, none⟩)] w (NbO b L tb tc bad d (New w) (kwdP L bad f d a) w)
 bin : ∀ {b tb tc a d : Nat} {w : World}, Pr b L tb tc bad a d w → a < L.length → d ≤ 40 → 16 * (L.length - a) + 4 ≤ f → Calls Tryz.prog 177 #[.pointer (some ⟨b, 0, none⟩)] w (NbO b L tb tc bad d (New w) (binP L bad f d a) w)
 un : ∀ {b tb tc a d : Nat} {w : World}, Pr b L tb tc bad a d w → a < L.length → d ≤ 40 → 16 * (L.length - a) + 3 ≤ f → Calls Tryz.prog 180 #[.pointer (some ⟨b, 0, none⟩)] w (NbO b L tb tc bad d (New w) (unP L bad f d a) w)
 prim : ∀ {b tb tc a d : Nat} {w : World}, Pr b L tb tc bad a d w → a < L.length → d ≤ 40 → 16 * (L.length - a) + 2 ≤ f → Calls Tryz.prog 191 #[.pointer (some ⟨b, 0, none⟩)] w (NdO b L tb tc bad d (New w) (primP L bad f d a) w)
 block : ∀ {b tb tc a d : Nat} {w : World}, Pr b L tb tc bad a d w → a < L.length → d ≤ 40 → isK L 13 a = true → 16 * (L.length - a) + 1 ≤ f → Calls Tryz.prog 201 #[.pointer (some ⟨b, 0, none⟩)] w (NdO b L tb tc bad d (New w) (blockP L bad f d a) w)
 stmts : ∀ {b tb tc a d : Nat} {w : World} {e : Int}, Pr b L tb tc bad a d w → a < L.length → d ≤ 40 → (e = 0 ∨ e = 14) → 16 * (L.length - a) + 9 ≤ f → Calls Tryz.prog 64 #[.pointer (some ⟨b, 0, none⟩), .int .i64 e] w (NsO b L tb tc bad d (New w) (stmtsP L bad f d e a []) w)
 stmt : ∀ {b tb tc a d : Nat} {w : World}, Pr b L tb tc bad a d w → a < L.length → d ≤ 40 → 16 * (L.length - a) + 8 ≤ f → Calls Tryz.prog 105 #[.pointer (some ⟨b, 0, none⟩)] w (NbO b L tb tc bad d (New w) (stmtP L bad f d a) w)
variable {f : Nat}
theorem un_round (hL : LOk L) {f k : Nat} {n : Nd} {s : Bool} {E : Nd × Bool × Nat} (hk : k < L.length) (hf : L.length - k < f) (h : unLoop L f n s k = E) :
  (isK L 1 k = false → E = (n, s, k)) ∧ (isK L 1 k = true → k + 1 < L.length ∧ ∃ f', L.length - (k + 1) < f' ∧ unLoop L f' (sendN (now L k) (now L k).word [n]) true (k + 1) = E) := by
 cases f with
 | zero => omega
 | succ f =>
  unfold unLoop at h
  refine ⟨fun hq => ?_, fun hq => ?_⟩
  · rw [if_neg (by rw [hq]; simp)] at h; exact h.symm
  rw [if_pos hq] at h
  exact ⟨hL.next hq (by omega) hk, f, by omega, h⟩
set_option maxRecDepth 100000 in
set_option maxHeartbeats 3200000 in
theorem un_step (hL : LOk L) (h : PA L bad f) (hP : Pr b L tb tc bad a d w) (ha : a < L.length) (hd : d ≤ 40) (hf : 16 * (L.length - a) + 3 ≤ f + 1) :
  Calls Tryz.prog 180 #[.pointer (some ⟨b, 0, none⟩)] w (NbO b L tb tc bad d (New w) (unP L bad (f + 1) d a) w) := by
 have hlen := hL.len
 have hbl := hP.blk.lt
 have htl := hP.lt
 have hX := alloc_bel w (.cells z6 NDT)
 have HC := h.prim (hP.bel hX) ha hd (by omega)
 have hres := (PB.all (bad := bad) hL f).prim d a ha
 rw [unP]
 obtain ⟨E, hE⟩ : ∃ E, primP L bad f d a = E := ⟨_, rfl⟩
 rw [hE] at HC hres ⊢
 replace HC := Lib.hid HC
 have HX := Lib.hid hX
 have HL := Lib.hid hL
 clear hX hE hL h hP
 go_enter Tryz.func180, Tryz.ntmps180
 go_wp2_with fail
 refine HC.out.mono ?_; intro e w1 ht
 cases E with
 | error x =>
  obtain ⟨rfl, hm⟩ := ht
  go_wp2_with fail
  exact ⟨rfl, rfl, (Mv.of_bel HX.out).trans hm⟩
 | ok y =>
  obtain ⟨n, a1⟩ := y
  obtain ⟨v, hv, rfl, hP1, hm1⟩ := ht
  obtain ⟨ka, kc, na, nc, rfl, hT, hN⟩ := hv.form
  obtain ⟨r1, r2, -, -⟩ := hres
  simp only at r1 r2
  have hs1 := hm1.size
  simp only [World.size_alloc] at hs1
  have hM1 := (Mv.of_bel (b := b) HX.out).trans hm1
  have Z1 : Blk NDT w.heap.size z6 w1 := (hm1.block _ (by simp) (by omega)).trans (Blk.made w)
  have HP1 := Lib.hid hP1
  have HT := Lib.hid hT
  have HN := Lib.hid hN
  have HZ1 := Lib.hid Z1
  have HM1 := Lib.hid hM1
  clear hv hP1 hm1 hT hN Z1 hM1
  unfold ndA
  go_wp2_with fail
  have HA := Lib.hid (alloc_bel w1 (.cells (ndA n ka kc na nc) NDT))
  have HB4 := Lib.hid (Blk.made (T := NDT) (cs := ndA n ka kc na nc) w1)
  go_loopw [5] (fun s wr => ∃ (k f : Nat) (x : Nd) (sb : Bool), s = .bool sb ∧ k < L.length ∧ L.length - k < f ∧ Hid (unLoop L f x sb k = unLoop L (L.length + 1) n false a1) ∧ Hid (NBlk (fun j => New w j ∧ j ≠ w.heap.size ∧ j ≠ w1.heap.size) w1.heap.size x wr) ∧ Hid (Blk NDT w.heap.size z6 wr) ∧ Hid (Pr b L tb tc bad k d wr) ∧ Hid (Mv b w wr) ∧ w1.heap.size < wr.heap.size) (fun _ wr => L.length - atP b wr)
  case atStart =>
   refine ⟨a1, L.length + 1, n, false, rfl, r2, by omega, Lib.hid rfl, Lib.hid ⟨ka, kc, na, nc, HB4.out, ?_, ?_⟩, Lib.hid (HZ1.out.alloc _), Lib.hid (HP1.out.bel HA.out), Lib.hid (HM1.out.alloc _), by simp⟩
   · exact (HT.out.bel HA.out |>.mono (fun j hj _ => hj)) |> fun h => (HT.out.mono (S' := fun j => New w j ∧ j ≠ w.heap.size ∧ j ≠ w1.heap.size) (fun j hj hl => by unfold New at *; simp at hj; omega)).bel HA.out
   exact (HN.out.mono (S' := fun j => New w j ∧ j ≠ w.heap.size ∧ j ≠ w1.heap.size) (fun j hj hl => by unfold New at *; simp at hj; omega)).below HA.out
  obtain ⟨k, g, x, sb, rfl, hk, hg, HEk, HX4, HZ, HPk, HMv, hlt⟩ := hrel
  have hatk := HPk.out.at_
  have hrd := un_round HL.out hk hg HEk.out
  have HI := Lib.hid (is_any HPk.out hk 1)
  obtain ⟨q, hq⟩ : ∃ t, isK L 1 k = t := ⟨_, rfl⟩
  obtain ⟨t, ht⟩ : ∃ t, now L k = t := ⟨_, rfl⟩
  rw [hq] at HI hrd
  rw [ht] at hrd
  have HNX := fun w' (hb : Below wr.heap.size wr w') => next_any (HPk.out.bel hb) hk hlen
  rw [ht] at HNX
  replace HNX := Lib.hid HNX
  have HRD := Lib.hid hrd
  have hms := HMv.out.size
  clear hrd hq ht HEk HB4 HA
  go_wp2_with fail
  refine HI.out.mono ?_; rintro e w2 ⟨rfl, hb2⟩
  have hs2 := hb2.size
  cases q with
  | false =>
   have hEE := HRD.out.1 (by first | rfl | trivial)
   obtain ⟨xa, xc, ya, yc, hB4, hT4, hN4⟩ := HX4.out.bel hb2
   have hZ2 := HZ.out.below hb2 (by omega)
   have hP2 := HPk.out.bel hb2
   have hM2 := HMv.out.trans (Mv.of_bel hb2)
   unfold ndA at hB4
   unfold z6 at hZ2
   have e0 := hB4.c 0 _ rfl
   have e1 := hB4.c 1 _ rfl
   have e2 := hB4.c 2 _ rfl
   have e3 := hB4.c 3 _ rfl
   have e4 := hB4.c 4 _ rfl
   have e5 := hB4.c 5 _ rfl
   have z0 := hZ2.c 0 _ rfl
   have z1 := hZ2.c 1 _ rfl
   have z2 := hZ2.c 2 _ rfl
   have z3 := hZ2.c 3 _ rfl
   have z4 := hZ2.c 4 _ rfl
   have z5 := hZ2.c 5 _ rfl
   have zf := hZ2.fz
   clear HRD HX4 HZ HPk HMv
   go_wp2_with fail
   refine bodyPost_ret (v := .tuple #[.agg (ndA x xa xc ya yc), .bool sb]) (by simp [results, Tryz.results180, go_sem, ndA, z0, z1, z2, z3, z4, z5]) rfl ?_
   have hX : unLoop L (L.length + 1) n false a1 = (x, sb, k) := hEE
   show NbO b L tb tc bad d (New w) (.ok (unLoop L (L.length + 1) n false a1)) w _ _
   rw [hX]
   refine ⟨_, ⟨_, _, rfl, ?_, ?_⟩, rfl, pr_far6 hP2 (by omega) (by omega), mv_set6 hM2 (Nat.le_refl _)⟩
   · exact (hT4.kp (kp_set6 (by simp))).mono (fun j hj _ => hj.1)
   exact (hN4.kp (kp_set6 (by simp))).mono (fun j hj _ => hj.1)
  | true =>
   obtain ⟨hk1, g', hg', HE'⟩ := HRD.out.2 (by first | rfl | trivial)
   have HE' := Lib.hid HE'
   clear HRD
   go_wp2_with fail
   refine (HNX.out w2 hb2).mono ?_; rintro e w3 ⟨rfl, hP3, hm3⟩
   obtain ⟨xa, xc, ya, yc, hB4, hT4, hN4⟩ := (HX4.out.bel hb2).mv hm3 (by omega) (by unfold New; omega)
   have hZ3 : Blk NDT w.heap.size z6 w3 := (hm3.block _ (by omega) (by omega)).trans (HZ.out.below hb2 (by omega))
   have hM3 := (HMv.out.trans (Mv.of_bel hb2)).trans hm3
   have hs3 := hm3.size
   have hB4' := hB4
   unfold ndA at hB4'
   have e0 := hB4'.c 0 _ rfl
   have e1 := hB4'.c 1 _ rfl
   have e2 := hB4'.c 2 _ rfl
   have e3 := hB4'.c 3 _ rfl
   have e4 := hB4'.c 4 _ rfl
   have e5 := hB4'.c 5 _ rfl
   have ef := hB4'.fz
   have HP3 := Lib.hid hP3
   have HB4 := Lib.hid hB4
   have HT4 := Lib.hid hT4
   have HN4 := Lib.hid hN4
   have HZ3 := Lib.hid hZ3
   have HM3 := Lib.hid hM3
   clear HX4 HZ HPk HMv hP3 hm3 hB4 hT4 hN4 hZ3 hM3 hB4'
   have n1 : w1.heap.size < w3.heap.size := by omega
   have n2 : ¬ w1.heap.size = w3.heap.size := by omega
   unfold ptV
   go_wp2_with fail
   refine (send_any t ⟨t.word.toArray⟩ (some ⟨w3.heap.size + 1, 0, none⟩) 1 1 _).mono ?_; rintro e w4 ⟨rfl, hb4⟩
   have hX5 : Below w3.heap.size w3 ((w3.alloc (.cells #[.int .i64 t.kind, .string ⟨t.word.toArray⟩, .int .i64 t.num, .int .i64 t.at_] KT)).alloc (.cells (ndA x xa xc ya yc) NDT)) := (alloc_bel _ _).trans ((alloc_bel _ _).mono (by simp))
   have hX6 := hX5.trans (hb4.mono (by simp; omega))
   have hG : Blk NDT (w3.heap.size + 1) (ndA x xa xc ya yc) w4 := by
    have := Blk.made (T := NDT) (cs := ndA x xa xc ya yc) (w3.alloc (.cells #[.int .i64 t.kind, .string ⟨t.word.toArray⟩, .int .i64 t.num, .int .i64 t.at_] KT))
    rw [World.size_alloc] at this
    exact this.below hb4 (by simp)
   have hs4 := hX6.size
   have hP4 := HP3.out.bel hX6
   have hM4 := HM3.out.trans (Mv.of_bel hX6)
   have hB5 := HB4.out.below hX6 (by omega)
   have hT5 := tree_one (S := fun j => New w j ∧ j ≠ w.heap.size ∧ j ≠ w1.heap.size) hG (by unfold New; omega) (HT4.out.bel hX6) (HN4.out.below hX6)
   have hZ4 := HZ3.out.below hX6 (by omega)
   clear e0 e1 e2 e3 e4 e5 ef hX5 hb4 hG n1 n2
   unfold ndA at hB5
   have e0 := hB5.c 0 _ rfl
   have e1 := hB5.c 1 _ rfl
   have e2 := hB5.c 2 _ rfl
   have e3 := hB5.c 3 _ rfl
   have e4 := hB5.c 4 _ rfl
   have e5 := hB5.c 5 _ rfl
   have ef := hB5.fz
   have HB5 := Lib.hid hB5
   have HP4 := Lib.hid hP4
   have HM4 := Lib.hid hM4
   have HT5 := Lib.hid hT5
   have HZ4 := Lib.hid hZ4
   clear hB5 hP4 hM4 hT5 hZ4 hX6 HB4 HP3 HT4 HN4 HZ3 HM3
   go_wp2_with fail
   have hP5 := pr_far6 (k := w1.heap.size) (v0 := .int .i64 7) (v1 := .string ⟨t.word.toArray⟩) (v2 := .int .i64 0) (v3 := .slice (some ⟨w3.heap.size + 1, 0, none⟩) 1 1) (v4 := .slice none 0 0) (v5 := .int .i64 t.at_) HP4.out (by omega) (by omega)
   refine ⟨⟨k + 1, g', sendN t t.word [x], true, rfl, hk1, hg', HE', Lib.hid ⟨_, _, _, _, blk_set6 HB5.out, HT5.out.kp (kp_set6 (by simp)), rd_none _ _⟩, Lib.hid (blk_far6 HZ4.out (by omega)), Lib.hid hP5, Lib.hid (mv_set6 HM4.out (by omega)), by rw [size_set6]; omega⟩, ?_⟩
   rw [hP5.at_]; omega
end
end Pa
end Go.Proofs.YtmmgfifpjifjnaaGreatDoor
