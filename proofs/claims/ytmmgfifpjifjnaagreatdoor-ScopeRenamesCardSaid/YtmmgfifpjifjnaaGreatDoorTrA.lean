/- Methods as trees: what may be a method, how deep it is, how many nodes it has. Plain; no program. · Methods as trees, in memory: a slice of nodes that can be read, wherever it lies. · Methods as trees: few of them; one more message around. Plain; no program. · Package tree, the walk: bare; depth. · Package tree, the walk: functions handed over: slices.ContainsFunc, all. · Package tree, the walk: name, literal, value, holed, statements. · Package tree, the walk: statements, shape. -/
import Derived.Test.YtmmgfifpjifjnaaGreatDoorLxP0
import Derived.Test.YtmmgfifpjifjnaaGreatDoorBs
import Derived.Test.YtmmgfifpjifjnaaGreatDoorLxWb
set_option linter.unusedVariables false
namespace Go.Proofs.YtmmgfifpjifjnaaGreatDoor
namespace Tr
open Lx
inductive Nd where
 | mk (kind : Int) (name : Bytes) (num : Int) (kids : List Nd) (names : List Bytes) (at_ : Int)
namespace Nd
def kind : Nd → Int | .mk k _ _ _ _ _ => k
def name : Nd → Bytes | .mk _ s _ _ _ _ => s
def num : Nd → Int | .mk _ _ n _ _ _ => n
def kids : Nd → List Nd | .mk _ _ _ l _ _ => l
def names : Nd → List Bytes | .mk _ _ _ _ l _ => l
def at_ : Nd → Int | .mk _ _ _ _ _ a => a
theorem sz (x : Nd) : SizeOf.sizeOf x.kids < SizeOf.sizeOf x := by cases x; simp [kids]; omega
end Nd
structure Mt where
 name : Bytes
 params : List Bytes
 temps : List Bytes
 prim : Int
 body : List Nd
 at_ : Int
theorem Nd.ind {P : List Nd → Prop} (nil : P []) (cons : ∀ x l, P x.kids → P l → P (x :: l)) : ∀ l, P l
 | [] => nil
 | x :: l => cons x l (Nd.ind nil cons x.kids) (Nd.ind nil cons l)
 termination_by l => SizeOf.sizeOf l
 decreasing_by all_goals (have := x.sz; simp; omega)
def depthL : List Nd → Nat
 | [] => 0
 | x :: l => max (1 + depthL x.kids) (depthL l)
 termination_by l => SizeOf.sizeOf l
 decreasing_by all_goals (have := x.sz; simp; omega)
def allL : List Nd → List Nd
 | [] => []
 | x :: l => x :: (allL x.kids ++ allL l)
 termination_by l => SizeOf.sizeOf l
 decreasing_by all_goals (have := x.sz; simp; omega)
def cntL : List Nd → Nat
 | [] => 0
 | x :: l => 1 + cntL x.kids + cntL l
 termination_by l => SizeOf.sizeOf l
 decreasing_by all_goals (have := x.sz; simp; omega)
theorem depthL_nil : depthL [] = 0 := by unfold depthL; rfl
theorem depthL_cons (x : Nd) (l : List Nd) : depthL (x :: l) = max (1 + depthL x.kids) (depthL l) := by rw [depthL]
theorem allL_nil : allL [] = [] := by unfold allL; rfl
theorem allL_cons (x : Nd) (l : List Nd) : allL (x :: l) = x :: (allL x.kids ++ allL l) := by rw [allL]
theorem cntL_nil : cntL [] = 0 := by unfold cntL; rfl
theorem cntL_cons (x : Nd) (l : List Nd) : cntL (x :: l) = 1 + cntL x.kids + cntL l := by rw [cntL]
theorem allL_len (l : List Nd) : (allL l).length = cntL l := by
 refine Nd.ind (P := fun l => (allL l).length = cntL l) ?_ ?_ l
 · rw [allL_nil, cntL_nil]; rfl
 intro x l h1 h2
 rw [allL_cons, cntL_cons, List.length_cons, List.length_append, h1, h2]; omega
theorem depthL_append (a b : List Nd) : depthL (a ++ b) = max (depthL a) (depthL b) := by
 induction a with
 | nil => rw [depthL_nil, List.nil_append]; omega
 | cons x a ih => rw [List.cons_append, depthL_cons, depthL_cons, ih]; omega
theorem cntL_append (a b : List Nd) : cntL (a ++ b) = cntL a + cntL b := by
 induction a with
 | nil => rw [cntL_nil, List.nil_append]; omega
 | cons x a ih => rw [List.cons_append, cntL_cons, cntL_cons, ih]; omega
theorem allL_append (a b : List Nd) : allL (a ++ b) = allL a ++ allL b := by
 induction a with
 | nil => rw [allL_nil]; rfl
 | cons x a ih => rw [List.cons_append, allL_cons, allL_cons, ih]; simp
theorem depth_le_cnt (l : List Nd) : depthL l ≤ cntL l := by
 refine Nd.ind (P := fun l => depthL l ≤ cntL l) ?_ ?_ l
 · rw [depthL_nil]; omega
 intro x l h1 h2; rw [depthL_cons, cntL_cons]; omega
theorem len_le_cnt (l : List Nd) : l.length ≤ cntL l := by
 induction l with
 | nil => simp
 | cons x l ih => rw [cntL_cons]; simp; omega
theorem cnt_mem {x : Nd} {l : List Nd} (h : x ∈ l) : 1 + cntL x.kids ≤ cntL l := by
 induction l with
 | nil => cases h
 | cons y l ih =>
  rw [cntL_cons]
  rcases List.mem_cons.1 h with rfl | h
  · omega
  have := ih h; omega
def isName (s : Bytes) : Bool := arityL s == 0
def holed (x : Nd) : Bool := x.kind == 7 && (match x.kids with | [] => false | y :: _ => y.kind == 11)
def litB (x : Nd) : Bool := if x.kind = 5 then x.name == [116, 114, 117, 101] || x.name == [102, 97, 108, 115, 101] || x.name == [110, 105, 108] else decide (1 ≤ x.kind) && decide (x.kind ≤ 4)
def valB (x : Nd) : Bool := x.kind != 10 && x.kind != 11
def bodyB : List Nd → Bool
 | [] => true
 | x :: l => !(x.kind == 11) && !(x.kind == 10 && !l.isEmpty) && bodyB l
def bareB (x : Nd) (named numbered : Bool) (kids : Int) (names : Bool) : Bool :=
 (named || x.name == []) && (numbered || x.num == 0) && (decide (kids < 0) || (x.kids.length : Int) == kids) && (names || (x.names.length : Int) == 0)
def shapeB (x : Nd) : Bool :=
 if x.kind = 1 then bareB x false true 0 false
 else if x.kind = 2 ∨ x.kind = 3 then bareB x true false 0 false
 else if x.kind = 4 then bareB x false false (-1) false
 else if x.kind = 5 then bareB x true false 0 false && isName x.name
 else if x.kind = 6 then bareB x true false 1 false && isName x.name
 else if x.kind = 7 then bareB x true false (1 + arityL x.name) false && decide (0 ≤ arityL x.name)
 else if x.kind = 8 then bareB x false false (-1) false && decide (2 ≤ x.kids.length)
 else if x.kind = 9 then bareB x false true (-1) true && decide (0 ≤ x.num) && decide (x.num ≤ (x.names.length : Int)) && x.names.all isName
 else if x.kind = 10 then bareB x false false 1 false
 else x.kind == 11 && bareB x false false 0 false
def kidsB (x : Nd) : Bool :=
 if x.kind = 4 then x.kids.all litB
 else if x.kind = 9 then bodyB x.kids
 else if x.kind = 8 then (match x.kids with | [] => false | y :: l => y.kind == 7 && !holed y && l.all holed)
 else if x.kind = 7 then (match x.kids with | [] => false | y :: l => l.all valB && y.kind != 10)
 else x.kids.all valB
def fitsK (m0 m : Bool) : List Nd → Bool
 | [] => true
 | x :: l => (shapeB x && kidsB x && !(holed x && !m0) && fitsK false (x.kind == 8) x.kids) && fitsK m m l
 termination_by l => SizeOf.sizeOf l
 decreasing_by all_goals (have := x.sz; simp; omega)
def fitsB (x : Nd) (may : Bool) : Bool := shapeB x && kidsB x && !(holed x && !may) && fitsK false (x.kind == 8) x.kids
theorem fitsK_nil (m0 m : Bool) : fitsK m0 m [] = true := by unfold fitsK; rfl
theorem fitsK_cons (m0 m : Bool) (x : Nd) (l : List Nd) : fitsK m0 m (x :: l) = (fitsB x m0 && fitsK m m l) := by rw [fitsK]; rfl
def bigB (x : Nd) : Bool := (x.kind == 2 && decide (4096 < x.name.length)) || (x.kind == 3 && decide (64 < x.name.length))
def overB (x : Nd) : Bool := decide (x.num < -4611686018427387904) || decide (4611686018427387903 < x.num) || x.num == -4611686018427387904
def sizedL (l : List Nd) : Int := if (allL l).any bigB then 2 else if (allL l).any overB then 9 else if 40 < depthL l then 10 else 0
def headB (m : Mt) : Bool := decide (arityL m.name = (m.params.length : Int)) && decide (0 ≤ m.prim) && decide (m.prim ≤ 999) && m.params.all isName && m.temps.all isName && bodyB m.body
def checkM (m : Mt) : Int := if headB m = false then 3 else if fitsK false false m.body = false then 3 else sizedL m.body
def leastF (e : Int) (x : Nd) : Int := if bigB x then min e 2 else if overB x then min e 9 else e
theorem least_fold (l : List Nd) : ∀ e : Int, l.foldl leastF e = if l.any bigB then min e 2 else if l.any overB then min e 9 else e := by
 induction l with
 | nil => intro e; rfl
 | cons x l ih =>
  intro e
  rw [List.foldl_cons, ih, List.any_cons, List.any_cons]
  unfold leastF
  cases bigB x <;> cases overB x <;> cases l.any bigB <;> cases l.any overB <;> simp <;> omega
theorem sized_fold (l : List Nd) : sizedL l = (let e := (if 40 < depthL l then min ((allL l).foldl leastF 15) 10 else (allL l).foldl leastF 15); if e = 15 then 0 else e) := by
 rw [least_fold]
 unfold sizedL
 simp only
 by_cases hd : 40 < depthL l <;> cases (allL l).any bigB <;> cases (allL l).any overB <;> simp [hd] <;> decide
end Tr
end Go.Proofs.YtmmgfifpjifjnaaGreatDoor
namespace Go.Proofs.YtmmgfifpjifjnaaGreatDoor
open Go.RowKit
namespace Tr
open Lx Bs Sm
def Rd {α : Type} (S : Nat → Prop) (f : α → Value) (w : World) (v : Value) (l : List α) : Prop :=
 ∃ a cap, v = .slice a l.length cap ∧ l.length ≤ cap ∧ cap ≤ maxLen ∧ (a = none → cap = 0) ∧ (0 < l.length → ∃ b off, a = some ⟨b, off, none⟩ ∧ S b ∧ b < w.heap.size ∧ ∀ i x, l[i]? = some x → w.cell? ⟨b, off + i, none⟩ = some (f x))
def Kp (S : Nat → Prop) (w w' : World) : Prop := w.heap.size ≤ w'.heap.size ∧ ∀ b, S b → b < w.heap.size → w'.heap[b]? = w.heap[b]?
section
variable {α : Type} {S S' : Nat → Prop} {f : α → Value} {w w' : World} {v : Value} {l : List α}
theorem Kp.cell (h : Kp S w w') {b : Nat} (hb : S b) (hl : b < w.heap.size) (i : Nat) : w'.cell? ⟨b, i, none⟩ = w.cell? ⟨b, i, none⟩ := World.cell?_of_block (h.2 b hb hl)
theorem Kp.of (h : Below w.heap.size w w') : Kp S w w' := ⟨h.size, fun b _ hl => h.block b hl⟩
theorem Kp.lt {B : Nat} (h : Below B w w') : Kp (fun b => b < B) w w' := ⟨h.size, fun b hb _ => h.block b hb⟩
theorem Rd.kp (h : Rd S f w v l) (hk : Kp S w w') : Rd S f w' v l := by
 obtain ⟨a, cap, h1, h2, h3, h5, h4⟩ := h
 refine ⟨a, cap, h1, h2, h3, h5, fun hl => ?_⟩
 obtain ⟨b, off, k1, k0, k2, k3⟩ := h4 hl
 exact ⟨b, off, k1, k0, Nat.lt_of_lt_of_le k2 hk.1, fun i x hx => (hk.cell k0 k2 _).trans (k3 i x hx)⟩
theorem Rd.below (h : Rd S f w v l) (hb : Below w.heap.size w w') : Rd S f w' v l := h.kp (Kp.of hb)
theorem Rd.mono (h : Rd S f w v l) (hs : ∀ b, S b → b < w.heap.size → S' b) : Rd S' f w v l := by
 obtain ⟨a, cap, h1, h2, h3, h5, h4⟩ := h
 refine ⟨a, cap, h1, h2, h3, h5, fun hl => ?_⟩
 obtain ⟨b, off, k1, k0, k2, k3⟩ := h4 hl
 exact ⟨b, off, k1, hs b k0 k2, k2, k3⟩
theorem Rd.form (h : Rd S f w v l) : ∃ a cap, v = .slice a l.length cap ∧ l.length ≤ cap ∧ cap ≤ maxLen := by
 obtain ⟨a, cap, h1, h2, h3, _⟩ := h
 exact ⟨a, cap, h1, h2, h3⟩
theorem Rd.cut {a : Option Addr} {n cap : Nat} (h : Rd S f w (.slice a n cap) l) (k : Nat) (hk : k ≤ n) : Rd S f w (.slice a k cap) (l.take k) := by
 obtain ⟨a', cap', h1, h2, h3, h5, h4⟩ := h
 cases h1
 have hl : (l.take k).length = k := by rw [List.length_take]; omega
 refine ⟨a, cap, by rw [hl], by rw [hl]; omega, h3, h5, fun hl2 => ?_⟩
 rw [hl] at hl2
 obtain ⟨b, off, k1, k0, k2, k3⟩ := h4 (by omega)
 refine ⟨b, off, k1, k0, k2, fun i x hx => k3 i x ?_⟩
 rw [List.getElem?_take] at hx
 split at hx
 · exact hx
 cases hx
theorem Rd.at_ {a : Option Addr} {n cap : Nat} (h : Rd S f w (.slice a n cap) l) (i : Nat) (hi : i < n) : ∃ b off x, a = some ⟨b, off, none⟩ ∧ l[i]? = some x ∧ b < w.heap.size ∧ w.cell? ⟨b, off + i, none⟩ = some (f x) := by
 obtain ⟨a', cap', h1, h2, h3, h5, h4⟩ := h
 cases h1
 obtain ⟨b, off, k1, k0, k2, k3⟩ := h4 (by omega)
 have hx := List.getElem?_eq_getElem hi
 exact ⟨b, off, _, k1, hx, k2, k3 i _ hx⟩
theorem Rd.of {B e : Nat} (h : w.ownsRow B e 1 v l.length (l.map f)) : Rd (fun b => B ≤ b) f w v l := by
 have hlt := h.lt
 have h0 := h
 rcases h.2 with ⟨rfl, hn⟩ | ⟨g, cap, cur, rfl, hb, hg, hnc, hcm, _⟩
 · exact ⟨none, 0, by rw [hn], by omega, by unfold maxLen; omega, fun _ => rfl, fun hl => by omega⟩
 refine ⟨some ⟨g, 0, none⟩, cap, rfl, hnc, hcm, (fun h => by cases h), fun _ => ⟨g, 0, rfl, hb, (hlt g rfl).2, fun i x hx => ?_⟩⟩
 have hc := World.ownsRow.cells h0 (g := g) rfl i (f x) (by rw [List.getElem?_map, hx]; rfl)
 rw [Nat.zero_add]
 have e : (⟨g, 0, none⟩ : Addr).add i = ⟨g, i, none⟩ := by unfold Addr.add; split <;> simp_all
 rw [e] at hc
 exact hc
end
def ndC (x : Nd) (kv nv : Value) : List Value := [.int .i64 x.kind, .string ⟨x.name.toArray⟩, .int .i64 x.num, kv, nv, .int .i64 x.at_]
def ndV (x : Nd) (kv nv : Value) : Value := .agg #[.int .i64 x.kind, .string ⟨x.name.toArray⟩, .int .i64 x.num, kv, nv, .int .i64 x.at_]
def Row (w : World) (b o : Nat) (x : Nd) (kv nv : Value) : Prop :=
 w.cell? ⟨b, o, none⟩ = some (.int .i64 x.kind) ∧ w.cell? ⟨b, o + 1, none⟩ = some (.string ⟨x.name.toArray⟩) ∧ w.cell? ⟨b, o + 2, none⟩ = some (.int .i64 x.num) ∧ w.cell? ⟨b, o + 3, none⟩ = some kv ∧ w.cell? ⟨b, o + 4, none⟩ = some nv ∧ w.cell? ⟨b, o + 5, none⟩ = some (.int .i64 x.at_)
theorem Row.kp {w w' : World} {b o : Nat} {x : Nd} {kv nv : Value} (h : Row w b o x kv nv) (hk : ∀ i, w'.cell? ⟨b, i, none⟩ = w.cell? ⟨b, i, none⟩) : Row w' b o x kv nv := by
 obtain ⟨h0, h1, h2, h3, h4, h5⟩ := h
 exact ⟨(hk _).trans h0, (hk _).trans h1, (hk _).trans h2, (hk _).trans h3, (hk _).trans h4, (hk _).trans h5⟩
inductive Tree (S : Nat → Prop) (w : World) : Value → List Nd → Prop
 | mk (vl : List (Nd × Value × Value)) (a : Option Addr) (cap : Nat) (h1 : vl.length ≤ cap) (h2 : cap ≤ maxLen) (h3 : a = none → cap = 0)
   (hc : 0 < vl.length → ∃ b off, a = some ⟨b, off, none⟩ ∧ S b ∧ b < w.heap.size ∧ ∀ i x, vl[i]? = some x → Row w b (off + i * 6) x.1 x.2.1 x.2.2)
   (hk : ∀ x ∈ vl, Tree S w x.2.1 x.1.kids) (hn : ∀ x ∈ vl, Rd S strV w x.2.2 x.1.names) : Tree S w (.slice a vl.length cap) (vl.map (·.1))
def NdAt (S : Nat → Prop) (w : World) (x : Nd) (kv nv : Value) : Prop := Tree S w kv x.kids ∧ Rd S strV w nv x.names
section
variable {S S' : Nat → Prop} {w w' : World} {v : Value} {l : List Nd}
theorem Tree.kp (h : Tree S w v l) (hk : Kp S w w') : Tree S w' v l := by
 induction h with
 | mk vl a cap h1 h2 h3 hc _ hn ih =>
  refine .mk vl a cap h1 h2 h3 (fun hl => ?_) ih (fun x hx => (hn x hx).kp hk)
  obtain ⟨b, off, k1, k0, k2, k3⟩ := hc hl
  exact ⟨b, off, k1, k0, Nat.lt_of_lt_of_le k2 hk.1, fun i x hx => (k3 i x hx).kp (fun j => hk.cell k0 k2 j)⟩
theorem Tree.bel (h : Tree S w v l) (hb : Below w.heap.size w w') : Tree S w' v l := h.kp (Kp.of hb)
theorem Tree.mono (h : Tree S w v l) (hs : ∀ b, S b → b < w.heap.size → S' b) : Tree S' w v l := by
 induction h with
 | mk vl a cap h1 h2 h3 hc _ hn ih =>
  refine .mk vl a cap h1 h2 h3 (fun hl => ?_) ih (fun x hx => (hn x hx).mono hs)
  obtain ⟨b, off, k1, k0, k2, k3⟩ := hc hl
  exact ⟨b, off, k1, hs b k0 k2, k2, k3⟩
theorem Tree.nil (S : Nat → Prop) (w : World) : Tree S w (.slice none 0 0) [] := .mk [] none 0 (by simp) (by unfold maxLen; omega) (fun _ => rfl) (fun h => by simp at h) (fun x hx => by cases hx) (fun x hx => by cases hx)
theorem Tree.empty (S : Nat → Prop) (w : World) (a : Option Addr) {n : Nat} {l : List Nd} (hn : l.length = n) (h0 : n = 0) : Tree S w (.slice a n 0) l := by
 subst h0
 obtain rfl : l = [] := List.eq_nil_of_length_eq_zero hn
 exact .mk [] a 0 (by simp) (by unfold maxLen; omega) (fun _ => rfl) (fun h => by simp at h) (fun x hx => by cases hx) (fun x hx => by cases hx)
theorem Tree.form (h : Tree S w v l) : ∃ a cap, v = .slice a l.length cap ∧ l.length ≤ cap ∧ cap ≤ maxLen := by
 cases h with
 | mk vl a cap h1 h2 h3 hc hk hn => exact ⟨a, cap, by rw [List.length_map], by rw [List.length_map]; exact h1, h2⟩
theorem Tree.at_ {a : Option Addr} {n cap : Nat} (h : Tree S w (.slice a n cap) l) (i : Nat) (hi : i < n) :
  ∃ b off x kv nv, a = some ⟨b, off, none⟩ ∧ l[i]? = some x ∧ b < w.heap.size ∧ S b ∧ Row w b (off + i * 6) x kv nv ∧ Tree S w kv x.kids ∧ Rd S strV w nv x.names := by
 generalize hv : Value.slice a n cap = v at h
 cases h with
 | mk vl a cap h1 h2 h3 hc hk hn =>
  cases hv
  obtain ⟨b, off, k1, k0, k2, k3⟩ := hc (by omega)
  have hx := List.getElem?_eq_getElem hi
  exact ⟨b, off, vl[i].1, vl[i].2.1, vl[i].2.2, k1, by rw [List.getElem?_map, hx]; rfl, k2, k0, k3 i _ hx, hk _ (List.getElem_mem hi), hn _ (List.getElem_mem hi)⟩
theorem Tree.nth {a : Option Addr} {n cap : Nat} (h : Tree S w (.slice a n cap) l) (i : Nat) (hi : i < n) :
  ∃ b off x ka kc na nc, a = some ⟨b, off, none⟩ ∧ l[i]? = some x ∧ b < w.heap.size ∧ S b ∧ Row w b (off + i * 6) x (.slice ka x.kids.length kc) (.slice na x.names.length nc) ∧ Tree S w (.slice ka x.kids.length kc) x.kids ∧ Rd S strV w (.slice na x.names.length nc) x.names := by
 obtain ⟨b, off, x, kv, nv, h1, h2, h3, h4, h5, h6, h7⟩ := h.at_ i hi
 obtain ⟨ka, kc, rfl, -, -⟩ := h6.form
 obtain ⟨na, nc, rfl, -, -⟩ := h7.form
 exact ⟨b, off, x, ka, kc, na, nc, h1, h2, h3, h4, h5, h6, h7⟩
theorem Tree.len {a : Option Addr} {n cap : Nat} (h : Tree S w (.slice a n cap) l) : n = l.length ∧ l.length ≤ cap ∧ cap ≤ maxLen := by
 obtain ⟨a', c', e, h1, h2⟩ := h.form
 cases e
 exact ⟨rfl, h1, h2⟩
theorem Tree.part {a : Option Addr} {n cap : Nat} (h : Tree S w (.slice a n cap) l) (k m : Nat) (hk : k ≤ m) (hm : m ≤ n) {a' : Option Addr} (ha : (a = none ∧ a' = none) ∨ ∃ b off, a = some ⟨b, off, none⟩ ∧ a' = some ⟨b, off + k * 6, none⟩)
  : Tree S w (.slice a' (m - k) (cap - k)) ((l.take m).drop k) := by
 generalize hv : Value.slice a n cap = v at h
 cases h with
 | mk vl a0 cap0 h1 h2 h3 hc hk0 hn =>
  cases hv
  have e1 : ((vl.map (·.1)).take m).drop k = ((vl.take m).drop k).map (·.1) := by rw [List.map_drop, List.map_take]
  have e2 : ((vl.take m).drop k).length = m - k := by rw [List.length_drop, List.length_take]; omega
  rw [e1, ← e2]
  refine .mk _ _ _ (by rw [e2]; omega) (by omega) ?_ ?_ ?_ ?_
  · intro h
    rcases ha with ⟨r1, _⟩ | ⟨b, off, r1, r2⟩
    · have := h3 r1; omega
    rw [h] at r2; cases r2
  · intro hl
    rw [e2] at hl
    obtain ⟨b, off, k1, k0, k2, k3⟩ := hc (by omega)
    rcases ha with ⟨r1, _⟩ | ⟨b', off', r1, r2⟩
    · rw [r1] at k1; cases k1
    rw [r1] at k1
    cases k1
    refine ⟨_, _, r2, k0, k2, fun i x hx => ?_⟩
    rw [List.getElem?_drop, List.getElem?_take] at hx
    split at hx
    · have := k3 (k + i) x hx
      have e : ∀ o : Nat, o + (k + i) * 6 = o + k * 6 + i * 6 := fun o => by omega
      rw [e] at this
      exact this
    cases hx
  · intro x hx; exact hk0 x (List.mem_of_mem_take (List.mem_of_mem_drop hx))
  intro x hx; exact hn x (List.mem_of_mem_take (List.mem_of_mem_drop hx))
theorem Tree.cut {a : Option Addr} {n cap : Nat} (h : Tree S w (.slice a n cap) l) (m : Nat) (hm : m ≤ n) : Tree S w (.slice a m cap) (l.take m) := by
 generalize hv : Value.slice a n cap = v at h
 cases h with
 | mk vl a0 cap0 h1 h2 h3 hc hk0 hn =>
  cases hv
  have e2 : (vl.take m).length = m := by rw [List.length_take]; omega
  have e1 : (vl.map (·.1)).take m = (vl.take m).map (·.1) := by rw [List.map_take]
  rw [e1]
  have h := Tree.mk (S := S) (w := w) (vl.take m) a cap (by rw [e2]; omega) h2 h3 (fun hl => ?_) (fun x hx => hk0 x (List.mem_of_mem_take hx)) (fun x hx => hn x (List.mem_of_mem_take hx))
  · rw [e2] at h; exact h
  rw [e2] at hl
  obtain ⟨b, off, k1, k0, k2, k3⟩ := hc (by omega)
  refine ⟨b, off, k1, k0, k2, fun i x hx => k3 i x ?_⟩
  rw [List.getElem?_take] at hx
  split at hx
  · exact hx
  cases hx
end
end Tr
end Go.Proofs.YtmmgfifpjifjnaaGreatDoor
namespace Go.Proofs.YtmmgfifpjifjnaaGreatDoor
namespace Tr
open Lx
theorem mem_all {x : Nd} {l : List Nd} (h : x ∈ l) : x ∈ allL l := by
 induction l with
 | nil => cases h
 | cons y l ih =>
  rw [allL_cons]
  rcases List.mem_cons.1 h with rfl | h
  · exact List.mem_cons_self ..
  exact List.mem_cons_of_mem _ (List.mem_append.2 (.inr (ih h)))
theorem all_kids {x y : Nd} {l : List Nd} (h : x ∈ l) (hy : y ∈ allL x.kids) : y ∈ allL l := by
 induction l with
 | nil => cases h
 | cons z l ih =>
  rw [allL_cons]
  rcases List.mem_cons.1 h with rfl | h
  · exact List.mem_cons_of_mem _ (List.mem_append.2 (.inl hy))
  exact List.mem_cons_of_mem _ (List.mem_append.2 (.inr (ih h)))
def Fair (x : Nd) : Prop := x.name.length ≤ 5000 ∧ x.names.length ≤ 9 ∧ -9223372036854775808 ≤ x.num ∧ x.num ≤ 9223372036854775807
def InI (x : Nd) : Prop := -9223372036854775808 ≤ x.num ∧ x.num ≤ 9223372036854775807
structure Mild (l : List Nd) : Prop where
 few : cntL l ≤ 201
 fair : ∀ x ∈ allL l, Fair x
theorem Mild.kids {l : List Nd} (h : Mild l) {x : Nd} (hx : x ∈ l) : Mild x.kids := ⟨by have := cnt_mem hx; have := h.few; omega, fun y hy => h.fair y (all_kids hx hy)⟩
theorem Mild.len {l : List Nd} (h : Mild l) : l.length ≤ 201 := Nat.le_trans (len_le_cnt l) h.few
def cutN (x : Nd) (ks : List Nd) : Nd := .mk x.kind (x.name.take 5000) x.num ks (x.names.take 9) x.at_
def fewL (deep n : Nat) : List Nd → List Nd × Nat
 | [] => ([], n)
 | x :: l => if n = 0 ∨ deep = 0 then ([], n) else
  (cutN x (fewL (deep - 1) (n - 1) x.kids).1 :: (fewL deep (fewL (deep - 1) (n - 1) x.kids).2 l).1, (fewL deep (fewL (deep - 1) (n - 1) x.kids).2 l).2)
 termination_by l => SizeOf.sizeOf l
 decreasing_by all_goals (have := x.sz; simp; omega)
theorem fewL_nil (d n : Nat) : fewL d n [] = ([], n) := by unfold fewL; rfl
theorem fewL_cons (d n : Nat) (x : Nd) (l : List Nd) : fewL d n (x :: l) = if n = 0 ∨ d = 0 then ([], n) else
  (cutN x (fewL (d - 1) (n - 1) x.kids).1 :: (fewL d (fewL (d - 1) (n - 1) x.kids).2 l).1, (fewL d (fewL (d - 1) (n - 1) x.kids).2 l).2) := by rw [fewL]
theorem few_cnt (l : List Nd) : ∀ d n : Nat, cntL (fewL d n l).1 + (fewL d n l).2 = n := by
 refine Nd.ind (P := fun l => ∀ d n : Nat, cntL (fewL d n l).1 + (fewL d n l).2 = n) ?_ ?_ l
 · intro d n; rw [fewL_nil, cntL_nil]; simp
 intro x l h1 h2 d n
 rw [fewL_cons]
 split
 · rw [cntL_nil]; simp
 rename_i h
 have a := h1 (d - 1) (n - 1)
 have b := h2 d (fewL (d - 1) (n - 1) x.kids).2
 rw [cntL_cons]
 show 1 + cntL (fewL (d - 1) (n - 1) x.kids).1 + _ + _ = n
 simp only [Nd.kids] at *
 omega
theorem few_fair (l : List Nd) : (∀ x ∈ allL l, InI x) → ∀ d n : Nat, ∀ x ∈ allL (fewL d n l).1, Fair x := by
 refine Nd.ind (P := fun l => (∀ x ∈ allL l, InI x) → ∀ d n : Nat, ∀ x ∈ allL (fewL d n l).1, Fair x) ?_ ?_ l
 · intro _ d n x hx; rw [fewL_nil, allL_nil] at hx; cases hx
 intro x l h1 h2 hI d n y hy
 rw [allL_cons] at hI
 rw [fewL_cons] at hy
 split at hy
 · rw [allL_nil] at hy; cases hy
 rw [allL_cons] at hy
 rcases List.mem_cons.1 hy with rfl | hy
 · have hx := hI x (List.mem_cons_self ..)
   refine ⟨?_, ?_, hx.1, hx.2⟩
   · show (x.name.take 5000).length ≤ 5000
     rw [List.length_take]; omega
   show (x.names.take 9).length ≤ 9
   rw [List.length_take]; omega
 rcases List.mem_append.1 hy with hy | hy
 · exact h1 (fun z hz => hI z (List.mem_cons_of_mem _ (List.mem_append.2 (.inl hz)))) _ _ y hy
 exact h2 (fun z hz => hI z (List.mem_cons_of_mem _ (List.mem_append.2 (.inr hz)))) _ _ y hy
theorem few_mild (l : List Nd) (h : ∀ x ∈ allL l, InI x) (d : Nat) : Mild (fewL d 200 l).1 := ⟨by have := few_cnt l d 200; omega, few_fair l h d 200⟩
def cutM (m : Mt) : Mt := { m with body := (fewL 60 200 m.body).1, params := m.params.take 15, temps := m.temps.take 15 }
def wrap (b : Nd) : Nd := .mk 7 [102, 111, 111] 0 [b] [] 0
end Tr
end Go.Proofs.YtmmgfifpjifjnaaGreatDoor
namespace Go.Proofs.YtmmgfifpjifjnaaGreatDoor
open Go.RowKit
namespace Tr
open Bs Sm
set_option maxRecDepth 100000 in
set_option maxHeartbeats 1600000 in
theorem bare_any (x : Nd) (kv nv : Value) (a b c : Bool) (k : Int) (w : World) {ko no : Option Addr} {kc nc : Nat} (hk : kv = .slice ko x.kids.length kc) (hn : nv = .slice no x.names.length nc) :
  Calls Tryz.prog 117 #[ndV x kv nv, .bool a, .bool b, .int .i64 k, .bool c] w (Back (.bool (bareB x a b k c)) w) := by
 subst hk hn
 unfold bareB ndV
 obtain ⟨nm, hnm⟩ : ∃ s, x.name = s := ⟨_, rfl⟩
 rw [hnm]
 go_enter Tryz.func117, Tryz.ntmps117
 go_wp2_with fail
 all_goals go_ret
 all_goals refine ⟨?_, (Below.refl _ _).alloc (Nat.le_refl _) _⟩
 all_goals congr 2
 all_goals (simp_all <;> omega)
end Tr
end Go.Proofs.YtmmgfifpjifjnaaGreatDoor
namespace Go.Proofs.YtmmgfifpjifjnaaGreatDoor
open Go.RowKit
namespace Tr
open Bs Sm
abbrev NT : Nat := 94
def Ent (kf : Nat) : Prop := ∀ args w, (callFunc kf args).run Tryz.prog w = .ok (.enter kf args) w
set_option maxRecDepth 100000 in
set_option maxHeartbeats 1600000 in
theorem idxS_any {S : Nat → Prop} (kf : Nat) (cap : Array Value) (p : Bytes → Bool) (v : Value) (l : List Bytes) (w0 w : World) (hl : Rd S strV w v l) (hb : Below w0.heap.size w0 w)
  (hen : Ent kf) (hf : ∀ s w', Below w0.heap.size w0 w' → Calls Tryz.prog kf (#[strV s] ++ cap) w' (Back (.bool (p s)) w')) :
  Calls Tryz.prog 69 #[v, .func (.func kf) #[] cap] w (fun e w' => Below w.heap.size w w' ∧ ∃ i : Int, e = .returned (.int .i64 i) ∧ (decide (0 ≤ i) = l.any p)) := by
 obtain ⟨a, c, rfl, hc, hm⟩ := hl.form
 obtain ⟨n, hn⟩ : ∃ n, l.length = n := ⟨_, rfl⟩
 have HN := Lib.hid hn
 have hn2 : n ≤ maxLen := by omega
 unfold maxLen at hn2
 rw [hn] at hl ⊢
 have HL := Lib.hid hl
 have HF := Lib.hid hf
 have hb0 := hb.size
 have HB := Lib.hid hb
 unfold Ent at hen
 clear hl hf hn hb
 go_enter Tryz.func69, Tryz.ntmps69
 go_wp2_with fail
 go_loopw [8, 5] (fun y _ wr => ∃ k : Nat, y = .int .i64 (k : Int) ∧ k ≤ n ∧ Below w.heap.size w wr ∧ Hid (∀ i s, i < k → l[i]? = some s → p s = false)) (fun y _ _ => n - (intOf y).toNat)
 case atStart => exact ⟨0, rfl, Nat.zero_le _, Below.refl _ _, Lib.hid (fun i s hi => by omega)⟩
 obtain ⟨k, rfl, hk, hbr, hp⟩ := hrel
 by_cases hkn : k < n
 · have hdec : decide ((k : Int) < (n : Int)) = true := by simpa using hkn
   have hkw : IntKind.i64.wrap ((k : Int) + 1) = (k : Int) + 1 := IntWalk.i64_in _ (by omega)
   obtain ⟨gb, off, x, rfl, hx, hgb, hcx⟩ := (HL.out.below hbr).at_ k hkn
   have hbw := HB.out.trans (hbr.mono hb0)
   have HX := Lib.hid hx
   clear hx
   go_wp2_with fail
   refine (HF.out x wr hbw).mono ?_; rintro e w1 ⟨rfl, hb1⟩
   have hb2 := hbr.trans (hb1.mono hbr.size)
   cases hpx : p x with
   | true =>
    go_wp2_with fail
    go_ret
    exact ⟨hb2, _, rfl, by rw [List.any_eq_true.2 ⟨x, List.mem_of_getElem? HX.out, hpx⟩]; simp⟩
   | false =>
    have HP : Hid (∀ i s, i < k + 1 → l[i]? = some s → p s = false) := Lib.hid (fun i s hi hs => by
     by_cases hik : i < k
     · exact hp.out i s hik hs
     obtain rfl : i = k := by omega
     rw [HX.out] at hs; cases hs; exact hpx)
    clear hp
    go_wp2_with fail
    exact ⟨⟨k + 1, by simp, by omega, hb2, HP⟩, by simp only [intOf]; omega⟩
 obtain rfl : k = n := by omega
 have hdec : decide ((k : Int) < (k : Int)) = false := by simp
 have HA : Hid (l.any p = false) := Lib.hid (by
  rw [List.any_eq_false]
  intro s hs
  obtain ⟨i, hi⟩ := List.getElem?_of_mem hs
  have := hp.out i s (by have := (List.getElem?_eq_some_iff.1 hi).1; rw [HN.out] at this; exact this) hi
  simp [this])
 clear hp
 go_wp2_with fail
 go_ret
 exact ⟨hbr, _, rfl, by rw [HA.out]; simp⟩
theorem contS_any {S : Nat → Prop} (kf : Nat) (cap : Array Value) (p : Bytes → Bool) (v : Value) (l : List Bytes) (w0 w : World) (hl : Rd S strV w v l) (hb : Below w0.heap.size w0 w)
  (hen : Ent kf) (hf : ∀ s w', Below w0.heap.size w0 w' → Calls Tryz.prog kf (#[strV s] ++ cap) w' (Back (.bool (p s)) w')) :
  Calls Tryz.prog 41 #[v, .func (.func kf) #[] cap] w (Back (.bool (l.any p)) w) := by
 have H := idxS_any kf cap p v l w0 w hl hb hen hf
 clear hl hb hen hf
 obtain ⟨q, hq⟩ : ∃ q, l.any p = q := ⟨_, rfl⟩
 rw [hq] at H ⊢
 have H := Lib.hid H
 clear hq
 go_enter Tryz.func41, Tryz.ntmps41
 go_wp2_with fail
 refine H.out.mono ?_; rintro e w1 ⟨hb1, i, rfl, hi⟩
 go_wp2_with fail
 go_ret
 exact ⟨rfl, hb1⟩
def Tells (w0 : World) (kf : Nat) (cap : Array Value) (p : Nd → Bool) (l : List Nd) : Prop :=
 Ent kf ∧ ∀ x kv nv w', x ∈ l → Below w0.heap.size w0 w' → Tree (fun _ => True) w' kv x.kids → Rd (fun _ => True) strV w' nv x.names → Calls Tryz.prog kf (#[ndV x kv nv] ++ cap) w' (Back (.bool (p x)) w')
set_option maxRecDepth 100000 in
set_option maxHeartbeats 1600000 in
theorem idxN_any (kf : Nat) (cap : Array Value) (p : Nd → Bool) (v : Value) (l : List Nd) (w0 w : World) (hl : Tree (fun _ => True) w v l) (hb : Below w0.heap.size w0 w) (ht : Tells w0 kf cap p l) :
  Calls Tryz.prog 116 #[v, .func (.func kf) #[] cap] w (fun e w' => Below w.heap.size w w' ∧ ∃ i : Int, e = .returned (.int .i64 i) ∧ (decide (0 ≤ i) = l.any p)) := by
 obtain ⟨hen, hf⟩ := ht
 obtain ⟨a, c, rfl, hc, hm⟩ := hl.form
 obtain ⟨n, hn⟩ : ∃ n, l.length = n := ⟨_, rfl⟩
 have HN := Lib.hid hn
 have hn2 : n ≤ maxLen := by omega
 unfold maxLen at hn2
 rw [hn] at hl ⊢
 have HL := Lib.hid hl
 have HF := Lib.hid hf
 have hb0 := hb.size
 have HB := Lib.hid hb
 unfold Ent at hen
 clear hl hf hn hb
 go_enter Tryz.func116, Tryz.ntmps116
 go_wp2_with fail
 go_loopw [8, 5] (fun y _ wr => ∃ k : Nat, y = .int .i64 (k : Int) ∧ k ≤ n ∧ Below w.heap.size w wr ∧ Hid (∀ i s, i < k → l[i]? = some s → p s = false)) (fun y _ _ => n - (intOf y).toNat)
 case atStart => exact ⟨0, rfl, Nat.zero_le _, Below.refl _ _, Lib.hid (fun i s hi => by omega)⟩
 obtain ⟨k, rfl, hk, hbr, hp⟩ := hrel
 by_cases hkn : k < n
 · have hdec : decide ((k : Int) < (n : Int)) = true := by simpa using hkn
   have hkw : IntKind.i64.wrap ((k : Int) + 1) = (k : Int) + 1 := IntWalk.i64_in _ (by omega)
   obtain ⟨gb, off, x, kv, nv, rfl, hx, hgb, -, ⟨c0, c1, c2, c3, c4, c5⟩, hkt, hnt⟩ := (HL.out.bel hbr).at_ k hkn
   have hbw := HB.out.trans (hbr.mono hb0)
   have HX := Lib.hid hx
   have HC := HF.out x kv nv wr (List.mem_of_getElem? hx) hbw hkt hnt
   unfold ndV at HC
   have HC := Lib.hid HC
   obtain ⟨q, hq⟩ : ∃ q, p x = q := ⟨_, rfl⟩
   rw [hq] at HC
   have HQ := Lib.hid hq
   clear hx hkt hnt hq
   go_wp2_with fail
   refine HC.out.mono ?_; rintro e w1 ⟨rfl, hb1⟩
   have hb2 := hbr.trans (hb1.mono hbr.size)
   cases q with
   | true =>
    go_wp2_with fail
    go_ret
    exact ⟨hb2, _, rfl, by rw [List.any_eq_true.2 ⟨x, List.mem_of_getElem? HX.out, HQ.out⟩]; simp⟩
   | false =>
    have HP : Hid (∀ i s, i < k + 1 → l[i]? = some s → p s = false) := Lib.hid (fun i s hi hs => by
     by_cases hik : i < k
     · exact hp.out i s hik hs
     obtain rfl : i = k := by omega
     rw [HX.out] at hs; cases hs; exact HQ.out)
    clear hp
    go_wp2_with fail
    exact ⟨⟨k + 1, by simp, by omega, hb2, HP⟩, by simp only [intOf]; omega⟩
 obtain rfl : k = n := by omega
 have hdec : decide ((k : Int) < (k : Int)) = false := by simp
 have HA : Hid (l.any p = false) := Lib.hid (by
  rw [List.any_eq_false]
  intro s hs
  obtain ⟨i, hi⟩ := List.getElem?_of_mem hs
  have := hp.out i s (by have := (List.getElem?_eq_some_iff.1 hi).1; rw [HN.out] at this; exact this) hi
  simp [this])
 clear hp
 go_wp2_with fail
 go_ret
 exact ⟨hbr, _, rfl, by rw [HA.out]; simp⟩
theorem contN_any (kf : Nat) (cap : Array Value) (p : Nd → Bool) (v : Value) (l : List Nd) (w0 w : World) (hl : Tree (fun _ => True) w v l) (hb : Below w0.heap.size w0 w) (ht : Tells w0 kf cap p l) :
  Calls Tryz.prog 70 #[v, .func (.func kf) #[] cap] w (Back (.bool (l.any p)) w) := by
 have H := idxN_any kf cap p v l w0 w hl hb ht
 clear hl hb ht
 obtain ⟨q, hq⟩ : ∃ q, l.any p = q := ⟨_, rfl⟩
 rw [hq] at H ⊢
 have H := Lib.hid H
 clear hq
 go_enter Tryz.func70, Tryz.ntmps70
 go_wp2_with fail
 refine H.out.mono ?_; rintro e w1 ⟨hb1, i, rfl, hi⟩
 go_wp2_with fail
 go_ret
 exact ⟨rfl, hb1⟩
theorem ent65 : Ent 71 := enters_of Tryz.func71 (by kernel_rfl) rfl
theorem not1_any (kf : Nat) (cap : Array Value) (p : Nd → Bool) (l : List Nd) (w0 w1 : World) (hb : Below w0.heap.size w0 w1) (k : Nat) (hk : k < w1.heap.size) (hc : w1.cell? ⟨k, 0, none⟩ = some (.func (.func kf) #[] cap)) (ht : Tells w0 kf cap p l) :
  Tells w1 71 #[.pointer (some ⟨k, 0, none⟩)] (fun x => !p x) l := by
 refine ⟨ent65, fun x kv nv w hx hbw hkt hnt => ?_⟩
 obtain ⟨hen, hf⟩ := ht
 have hbx : Below w1.heap.size w1 (w.alloc (.cells #[.int .i64 x.kind, .string ⟨x.name.toArray⟩, .int .i64 x.num, kv, nv, .int .i64 x.at_] NT)) := hbw.alloc hbw.size _
 have HC := hf x kv nv _ hx (hb.trans (hbx.mono hb.size)) (hkt.bel ((Below.refl _ _).alloc (Nat.le_refl _) _)) (hnt.below ((Below.refl _ _).alloc (Nat.le_refl _) _))
 have hcx : (w.alloc (.cells #[.int .i64 x.kind, .string ⟨x.name.toArray⟩, .int .i64 x.num, kv, nv, .int .i64 x.at_] NT)).cell? ⟨k, 0, none⟩ = some (.func (.func kf) #[] cap) := (hbx.cell (p := ⟨k, 0, none⟩) hk).trans hc
 unfold ndV at HC ⊢
 show Calls Tryz.prog _ #[_, _] w (Back (.bool (!p x)) w)
 have HC := Lib.hid HC
 unfold Ent at hen
 obtain ⟨q, hq⟩ : ∃ q, p x = q := ⟨_, rfl⟩
 rw [hq] at HC ⊢
 clear hf hkt hnt hbx hc hq
 go_enter Tryz.func71, Tryz.ntmps71
 go_wp2_with fail
 refine HC.out.mono ?_; rintro e w2 ⟨rfl, hb2⟩
 go_wp2_with fail
 go_ret
 exact ⟨rfl, ((Below.refl _ _).alloc (Nat.le_refl _) _).trans (hb2.mono (by simp))⟩
theorem all_any (kf : Nat) (cap : Array Value) (p : Nd → Bool) (v : Value) (l : List Nd) (w0 w : World) (hl : Tree (fun _ => True) w v l) (hb : Below w0.heap.size w0 w) (ht : Tells w0 kf cap p l) :
  Calls Tryz.prog 43 #[v, .func (.func kf) #[] cap] w (Back (.bool (l.all p)) w) := by
 have hb1 : Below w.heap.size w (w.alloc (.cells #[.func (.func kf) #[] cap] 101)) := (Below.refl _ _).alloc (Nat.le_refl _) _
 have H := contN_any 71 #[.pointer (some ⟨w.heap.size, 0, none⟩)] (fun x => !p x) v l _ _ (hl.bel hb1) (Below.refl _ _) (not1_any kf cap p l w0 _ (hb.trans (hb1.mono hb.size)) w.heap.size (by simp) (by simp) ht)
 have e : l.any (fun x => !p x) = !l.all p := by rw [List.not_all_eq_any_not]
 rw [e] at H
 obtain ⟨q, hq⟩ : ∃ q, l.all p = q := ⟨_, rfl⟩
 rw [hq] at H ⊢
 have H := Lib.hid H
 clear hq e hl hb ht
 go_enter Tryz.func43, Tryz.ntmps43
 go_wp2_with fail
 refine H.out.mono ?_; rintro e w1 ⟨rfl, hb2⟩
 go_wp2_with fail
 go_ret
 exact ⟨by simp, hb1.trans (hb2.mono hb1.size)⟩
end Tr
end Go.Proofs.YtmmgfifpjifjnaaGreatDoor
namespace Go.Proofs.YtmmgfifpjifjnaaGreatDoor
open Go.RowKit
namespace Tr
open Bs Sm
theorem Arity_all (s : ByteArray) (w : World) : Calls Tryz.prog 40 #[.string s] w (Back (.int .i64 (Lx.arityL s.data.toList)) w) := by
 have hl : s.data.toList.length = s.size := rfl
 unfold Lx.arityL
 by_cases he : s.data.toList = []
 · rw [if_pos he]; exact Lx.arity_empty (by rw [ByteArray.toList_eq]; exact he)
 have he' : ¬ s.toList = [] := by rw [ByteArray.toList_eq]; exact he
 rw [if_neg he, hl]
 by_cases h64 : 64 < s.size
 · rw [if_pos h64]; exact Lx.arity_long he' h64
 rw [if_neg h64]
 by_cases hk : Lx.kwL s.data.toList = s.size
 · rw [if_pos hk]; exact Lx.arity_kw he' (by omega) hk
 rw [if_neg hk]; exact Lx.arity_rest he' (by omega) hk _ rfl
theorem Arity_at (s : Bytes) (w : World) : Calls Tryz.prog 40 #[strV s] w (Back (.int .i64 (Lx.arityL s)) w) := Arity_all ⟨s.toArray⟩ w
theorem name_any (s : Bytes) (w : World) : Calls Tryz.prog 39 #[strV s] w (Back (.bool (isName s)) w) := by
 have HA := Arity_at s w
 unfold isName
 obtain ⟨n, hn⟩ : ∃ n, Lx.arityL s = n := ⟨_, rfl⟩
 rw [hn] at HA ⊢
 have HA := Lib.hid HA
 clear hn
 go_enter Tryz.func39, Tryz.ntmps39
 go_wp2_with fail
 refine HA.out.mono ?_; rintro e w1 ⟨rfl, hb1⟩
 go_wp2_with fail
 go_ret
 exact ⟨by simp, hb1⟩
theorem unname1_any (s : Bytes) (w : World) : Calls Tryz.prog 118 #[strV s] w (Back (.bool (!isName s)) w) := by
 have HA := Lib.hid (name_any s w)
 go_enter Tryz.func118, Tryz.ntmps118
 go_wp2_with fail
 refine HA.out.mono ?_; rintro e w1 ⟨rfl, hb1⟩
 go_wp2_with fail
 go_ret
 exact ⟨by simp, hb1⟩
theorem unname2_any (s : Bytes) (w : World) : Calls Tryz.prog 38 #[strV s] w (Back (.bool (!isName s)) w) := by
 have HA := Lib.hid (name_any s w)
 go_enter Tryz.func38, Tryz.ntmps38
 go_wp2_with fail
 refine HA.out.mono ?_; rintro e w1 ⟨rfl, hb1⟩
 go_wp2_with fail
 go_ret
 exact ⟨by simp, hb1⟩
section
variable {x : Nd} {kv nv : Value} {w : World}
set_option maxRecDepth 100000 in
set_option maxHeartbeats 1600000 in
theorem literal_any : Calls Tryz.prog 119 #[ndV x kv nv] w (Back (.bool (litB x)) w) := by
 unfold litB ndV
 obtain ⟨nm, hnm⟩ : ∃ s, x.name = s := ⟨_, rfl⟩
 obtain ⟨K, hK⟩ : ∃ s, x.kind = s := ⟨_, rfl⟩
 rw [hnm, hK]
 clear hnm hK
 go_enter Tryz.func119, Tryz.ntmps119
 go_wp2_with fail
 all_goals go_ret
 all_goals refine ⟨?_, (Below.refl _ _).alloc (Nat.le_refl _) _⟩
 all_goals congr 2
 all_goals (simp_all <;> omega)
theorem value_any : Calls Tryz.prog 120 #[ndV x kv nv] w (Back (.bool (valB x)) w) := by
 unfold valB ndV
 obtain ⟨K, hK⟩ : ∃ s, x.kind = s := ⟨_, rfl⟩
 rw [hK]
 clear hK
 go_enter Tryz.func120, Tryz.ntmps120
 go_wp2_with fail
 all_goals go_ret
 all_goals refine ⟨?_, (Below.refl _ _).alloc (Nat.le_refl _) _⟩
 all_goals congr 2
 all_goals (simp_all)
theorem holed_any {S : Nat → Prop} (hk : Tree S w kv x.kids) : Calls Tryz.prog 74 #[ndV x kv nv] w (Back (.bool (holed x)) w) := by
 obtain ⟨a, c, rfl, hc, hm⟩ := hk.form
 obtain ⟨K, hK⟩ : ∃ s, x.kind = s := ⟨_, rfl⟩
 have HB : Below w.heap.size w (w.alloc (.cells #[.int .i64 x.kind, .string ⟨x.name.toArray⟩, .int .i64 x.num, .slice a x.kids.length c, nv, .int .i64 x.at_] 94)) := (Below.refl _ _).alloc (Nat.le_refl _) _
 have hk2 := hk.bel HB
 have hkl := hk2.len
 unfold holed ndV
 rw [hK] at *
 by_cases h0 : x.kids = []
 · rw [h0]
   clear hk hk2 hkl HB
   go_enter Tryz.func74, Tryz.ntmps74
   go_wp2_with fail
   all_goals go_ret
   all_goals refine ⟨?_, (Below.refl _ _).alloc (Nat.le_refl _) _⟩
   all_goals congr 2
   all_goals (simp_all)
 obtain ⟨y, l, hyl⟩ : ∃ y l, x.kids = y :: l := by
  cases h : x.kids with
  | nil => exact absurd h h0
  | cons y l => exact ⟨y, l, rfl⟩
 obtain ⟨gb, off, z, kv', nv', rfl, hz, hgb, -, ⟨c0, c1, c2, c3, c4, c5⟩, -, -⟩ := hk.at_ 0 (by rw [hyl]; simp)
 rw [hyl] at hz hc ⊢
 cases hz
 have hn : (y :: l).length = l.length + 1 := rfl
 rw [hn] at hc ⊢
 obtain ⟨n, hnn⟩ : ∃ n, l.length = n := ⟨_, rfl⟩
 rw [hnn] at hc ⊢
 have n1 : ¬ gb = w.heap.size := by omega
 have n2 : ¬ w.heap.size = gb := by omega
 obtain ⟨Y, hY⟩ : ∃ s, y.kind = s := ⟨_, rfl⟩
 simp only [hY] at c0 ⊢
 simp only [Nat.zero_mul, Nat.add_zero] at c0
 unfold maxLen at hm
 have hpos : decide ((0 : Int) < (n : Int) + 1) = true := by rw [decide_eq_true_eq]; omega
 clear c1 c2 c3 c4 c5 hk hk2 hkl hyl hnn hn h0 HB
 go_enter Tryz.func74, Tryz.ntmps74
 go_wp2_with fail
 all_goals go_ret
 all_goals refine ⟨?_, (Below.refl _ _).alloc (Nat.le_refl _) _⟩
 all_goals congr 2
 all_goals (simp_all)
end
end Tr
end Go.Proofs.YtmmgfifpjifjnaaGreatDoor
namespace Go.Proofs.YtmmgfifpjifjnaaGreatDoor
open Go.RowKit
namespace Tr
open Bs Sm
theorem body_drop (l : List Nd) (k : Nat) (x : Nd) (hx : l[k]? = some x) : bodyB (l.drop k) = (!(x.kind == 11) && !(x.kind == 10 && decide (k + 1 < l.length)) && bodyB (l.drop (k + 1))) := by
 have hk := (List.getElem?_eq_some_iff.1 hx)
 have e : l.drop k = x :: l.drop (k + 1) := by rw [List.drop_eq_getElem_cons hk.1, hk.2]
 rw [e, bodyB]
 have e2 : (!(l.drop (k + 1)).isEmpty) = decide (k + 1 < l.length) := by
  rw [Bool.eq_iff_iff]
  simp
 rw [e2]
set_option maxRecDepth 100000 in
set_option maxHeartbeats 1600000 in
theorem statements_any (v : Value) (l : List Nd) (w : World) (hl : Tree (fun _ => True) w v l) :
  Calls Tryz.prog 42 #[v] w (Back (.bool (bodyB l)) w) := by
 obtain ⟨a, c, rfl, hc, hm⟩ := hl.form
 obtain ⟨n, hn⟩ : ∃ n, l.length = n := ⟨_, rfl⟩
 have HN := Lib.hid hn
 have hn2 : n ≤ maxLen := by omega
 unfold maxLen at hn2
 rw [hn] at hl ⊢
 have HL := Lib.hid hl
 clear hl hn
 go_enter Tryz.func42, Tryz.ntmps42
 go_wp2_with fail
 go_loopw [7, 3] (fun y _ wr => ∃ k : Nat, y = .int .i64 (k : Int) ∧ k ≤ n ∧ Below w.heap.size w wr ∧ Hid (bodyB l = bodyB (l.drop k))) (fun y _ _ => n - (intOf y).toNat)
 case atStart => exact ⟨0, rfl, Nat.zero_le _, Below.refl _ _, Lib.hid rfl⟩
 obtain ⟨k, rfl, hk, hbr, hp⟩ := hrel
 by_cases hkn : k < n
 · have hdec : decide ((k : Int) < (n : Int)) = true := by simpa using hkn
   have hkw : IntKind.i64.wrap ((k : Int) + 1) = (k : Int) + 1 := IntWalk.i64_in _ (by omega)
   have hnw : IntKind.i64.wrap ((n : Int) - 1) = (n : Int) - 1 := IntWalk.i64_in _ (by omega)
   obtain ⟨gb, off, x, ka, kc, na, nc, rfl, hx, hgb, -, ⟨c0, c1, c2, c3, c4, c5⟩, hkt, hnt⟩ := (HL.out.bel hbr).nth k hkn
   have hbd := body_drop l k x hx
   rw [HN.out] at hbd
   obtain ⟨K, hK⟩ : ∃ s, x.kind = s := ⟨_, rfl⟩
   rw [hK] at hbd c0
   obtain ⟨r, hr⟩ : ∃ r, bodyB (l.drop (k + 1)) = r := ⟨_, rfl⟩
   rw [hr] at hbd
   have HR := Lib.hid hr
   have HD := Lib.hid (hp.out.trans hbd)
   obtain ⟨q, hq⟩ : ∃ q, bodyB l = q := ⟨_, rfl⟩
   have HQ := Lib.hid hq
   rw [hq] at HD ⊢
   have hb2 := hbr.trans (((Below.refl _ wr).alloc (Nat.le_refl _) (.cells #[.int .i64 K, .string ⟨x.name.toArray⟩, .int .i64 x.num, .slice ka x.kids.length kc, .slice na x.names.length nc, .int .i64 x.at_] 94)).mono hbr.size)
   clear hx hkt hnt hbd hp hr hK hq
   by_cases h11 : K = 11
   · subst h11
     go_wp2_with fail
     all_goals go_ret
     exact ⟨by rw [HD.out]; simp, hb2⟩
   by_cases h10 : K = 10
   · subst h10
     by_cases hk1 : (k : Int) < (n : Int) - 1
     · go_wp2_with fail
       all_goals go_ret
       exact ⟨by rw [HD.out]; have : decide (k + 1 < n) = true := by (rw [decide_eq_true_eq]; omega)
                 rw [this]; simp, hb2⟩
     have HE : Hid (q = r) := Lib.hid (by rw [HD.out]; have : decide (k + 1 < n) = false := by (rw [decide_eq_false_iff_not]; omega)
                                          rw [this]; simp)
     clear HD
     go_wp2_with fail
     exact ⟨⟨k + 1, by simp, by omega, hb2, Lib.hid (by rw [HE.out, HR.out])⟩, by simp only [intOf]; omega⟩
   have HE : Hid (q = r) := Lib.hid (by rw [HD.out]; simp [h10, h11])
   clear HD
   go_wp2_with fail
   exact ⟨⟨k + 1, by simp, by omega, hb2, Lib.hid (by rw [HE.out, HR.out])⟩, by simp only [intOf]; omega⟩
 obtain rfl : k = n := by omega
 have hdec : decide ((k : Int) < (k : Int)) = false := by simp
 have HA : Hid (bodyB l = true) := Lib.hid (by rw [hp.out, List.drop_eq_nil_of_le (by rw [HN.out]; exact Nat.le_refl _)]; rfl)
 clear hp
 go_wp2_with fail
 go_ret
 exact ⟨by simp [HA.out], hbr⟩
theorem ent99 : Ent 118 := enters_of Tryz.func118 (by kernel_rfl) rfl
theorem cont_names {S : Nat → Prop} (v : Value) (l : List Bytes) (w : World) (hl : Rd S strV w v l) :
  Calls Tryz.prog 41 #[v, .func (.func 118) #[] #[]] w (Back (.bool (!l.all isName)) w) := by
 have H := contS_any 118 #[] (fun s => !isName s) v l w w hl (Below.refl _ _) ent99 (fun s w' _ => unname1_any s w')
 rwa [← List.not_all_eq_any_not] at H
end Tr
end Go.Proofs.YtmmgfifpjifjnaaGreatDoor
