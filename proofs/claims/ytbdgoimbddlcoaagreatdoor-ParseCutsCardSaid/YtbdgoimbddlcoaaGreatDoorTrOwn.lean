/- Rows of nodes of one's own, with trees beneath. -/
import Derived.Test.YtbdgoimbddlcoaaGreatDoorTrMa
import Derived.Deep.DeepCutAuto
set_option linter.unusedVariables false
namespace Go.Proofs.YtbdgoimbddlcoaaGreatDoor
open Go.RowKit
namespace Tr
open Bs Sm
abbrev VL : Type := List (Nd × Value × Value)
def flatN (vl : VL) : List Value := vl.flatMap (fun x => ndC x.1 x.2.1 x.2.2)
theorem flatN_snoc (vl : VL) (x : Nd × Value × Value) : flatN (vl ++ [x]) = flatN vl ++ ndC x.1 x.2.1 x.2.2 := by unfold flatN; simp
theorem flatN_len (vl : VL) : (flatN vl).length = vl.length * 6 := by
 induction vl with
 | nil => rfl
 | cons x vl ih =>
  have : flatN (x :: vl) = ndC x.1 x.2.1 x.2.2 ++ flatN vl := rfl
  rw [this, List.length_append, ih, List.length_cons]
  show 6 + _ = _
  omega
theorem flatN_get : ∀ (vl : VL) (i : Nat) (x : Nd × Value × Value) (j : Nat) (u : Value), vl[i]? = some x → (ndC x.1 x.2.1 x.2.2)[j]? = some u → (flatN vl)[i * 6 + j]? = some u
 | [], i, x, j, u, h, _ => by simp at h
 | y :: vl, 0, x, j, u, h, hj => by
  simp at h
  subst h
  have : flatN (y :: vl) = ndC y.1 y.2.1 y.2.2 ++ flatN vl := rfl
  have hl : (ndC y.1 y.2.1 y.2.2).length = 6 := rfl
  have := (List.getElem?_eq_some_iff.1 hj).1
  rw [‹flatN (y :: vl) = _›, Nat.zero_mul, Nat.zero_add, List.getElem?_append_left (by omega)]
  exact hj
 | y :: vl, i + 1, x, j, u, h, hj => by
  have e : flatN (y :: vl) = ndC y.1 y.2.1 y.2.2 ++ flatN vl := rfl
  have hl : (ndC y.1 y.2.1 y.2.2).length = 6 := rfl
  rw [e, List.getElem?_append_right (by omega), hl]
  have e2 : (i + 1) * 6 + j - 6 = i * 6 + j := by omega
  rw [e2]
  exact flatN_get vl i x j u (by simpa using h) hj
/-- A row of one's own whose nodes' parts lie elsewhere, in blocks of S. -/
def OwnT (T B : Nat) (S : Nat → Prop) (w : World) (v : Value) (l : List Nd) : Prop :=
 ∃ vl : VL, vl.map (·.1) = l ∧ w.ownsRow B T 6 v vl.length (flatN vl) ∧ ∀ x ∈ vl, Tree (fun b => S b ∧ v.ownBlock ≠ some b) w x.2.1 x.1.kids ∧ Rd (fun b => S b ∧ v.ownBlock ≠ some b) strV w x.2.2 x.1.names
section
variable {T B : Nat} {S S' : Nat → Prop} {w w' : World} {v : Value} {l : List Nd}
theorem OwnT.nil (T B : Nat) (S : Nat → Prop) (w : World) : OwnT T B S w (.slice none 0 0) [] := ⟨[], rfl, World.ownsRow_nil _ _ _ _, fun x hx => by cases hx⟩
/-- Blocks of S, and the row's own, stay. -/
theorem OwnT.kp (h : OwnT T B S w v l) (hs : w.heap.size ≤ w'.heap.size) (hk : ∀ b, b < w.heap.size → (S b ∨ B ≤ b) → w'.heap[b]? = w.heap[b]?) : OwnT T B S w' v l := by
 obtain ⟨vl, h1, h2, h3⟩ := h
 have hlt := h2.lt
 refine ⟨vl, h1, ?_, fun x hx => ⟨(h3 x hx).1.kp ⟨hs, fun b hb hl => hk b hl (.inl hb.1)⟩, (h3 x hx).2.kp ⟨hs, fun b hb hl => hk b hl (.inl hb.1)⟩⟩⟩
 obtain ⟨e1, e2⟩ := h2
 refine ⟨e1, ?_⟩
 rcases e2 with hn | ⟨g, cap, cur, rfl, hb, hg, rest⟩
 · exact .inl hn
 · exact .inr ⟨g, cap, cur, rfl, hb, (hk g (hlt g rfl).2 (.inr hb)).trans hg, rest⟩
theorem OwnT.bel (h : OwnT T B S w v l) (hb : Below w.heap.size w w') : OwnT T B S w' v l := h.kp hb.size (fun b hl _ => hb.block b hl)
/-- All within can be read. -/
theorem OwnT.tree (h : OwnT T B S w v l) : Tree (fun b => S b ∨ v.ownBlock = some b) w v l := by
 obtain ⟨vl, rfl, h2, h3⟩ := h
 have hlt := h2.lt
 have h0 := h2
 rcases h2.2 with ⟨rfl, hn⟩ | ⟨g, cap, cur, rfl, hb, hg, hnc, hcm, _⟩
 · obtain rfl : vl = [] := List.eq_nil_of_length_eq_zero hn
   exact Tree.nil _ _
 · refine .mk vl _ cap hnc hcm (fun h => by cases h) (fun _ => ⟨g, 0, rfl, .inr rfl, (hlt g rfl).2, fun i x hx => ?_⟩) (fun x hx => (h3 x hx).1.mono (fun b hb _ => .inl hb.1)) (fun x hx => (h3 x hx).2.mono (fun b hb _ => .inl hb.1))
   have H : ∀ j u, (ndC x.1 x.2.1 x.2.2)[j]? = some u → w.cell? ⟨g, 0 + i * 6 + j, none⟩ = some u := fun j u hj => by
    have hc := World.ownsRow.cells h0 (g := g) rfl (i * 6 + j) u (flatN_get vl i x j u hx hj)
    have e : (⟨g, 0, none⟩ : Addr).add (i * 6 + j) = ⟨g, 0 + i * 6 + j, none⟩ := by unfold Addr.add; split <;> simp_all
    rw [e] at hc
    exact hc
   exact ⟨H 0 _ rfl, H 1 _ rfl, H 2 _ rfl, H 3 _ rfl, H 4 _ rfl, H 5 _ rfl⟩
/-- One more node. -/
theorem own_snoc {vl : VL} {x : Nd} {kv nv : Value} {g cap n : Nat} (hnn : n = vl.length) (hsz : w.heap.size ≤ w'.heap.size)
  (h3 : ∀ y ∈ vl, Tree (fun b => S b ∧ v.ownBlock ≠ some b) w y.2.1 y.1.kids ∧ Rd (fun b => S b ∧ v.ownBlock ≠ some b) strV w y.2.2 y.1.names)
  (hk : Tree (fun b => S b ∧ v.ownBlock ≠ some b) w kv x.kids) (hn : Rd (fun b => S b ∧ v.ownBlock ≠ some b) strV w nv x.names)
  (hown : w'.ownsRow B T 6 (.slice (some ⟨g, 0, none⟩) (n + 1) cap) (n + 1) (flatN vl ++ ndC x kv nv)) (hgrow : w.grownBy w' v.ownBlock) (hat : v.ownBlock = some g ∨ g = w.heap.size) :
  OwnT T B S w' (.slice (some ⟨g, 0, none⟩) (n + 1) cap) (vl.map (·.1) ++ [x]) := by
 subst hnn
 have hkp : Kp (fun b => (S b ∧ v.ownBlock ≠ some b) ∧ b < w.heap.size) w w' := ⟨hsz, fun b hb hl => hgrow.block b hl (fun e => hb.1.2 e.symm)⟩
 have hm1 : ∀ b, (S b ∧ v.ownBlock ≠ some b) → b < w.heap.size → ((S b ∧ v.ownBlock ≠ some b) ∧ b < w.heap.size) := fun b hb hl => ⟨hb, hl⟩
 have hm2 : ∀ b, ((S b ∧ v.ownBlock ≠ some b) ∧ b < w.heap.size) → b < w'.heap.size → (S b ∧ (Value.slice (some ⟨g, 0, none⟩) (vl.length + 1) cap).ownBlock ≠ some b) := fun b hb _ => ⟨hb.1.1, fun e => by
  have e : some g = some b := e
  cases e
  rcases hat with h | h
  · exact hb.1.2 h
  · have := hb.2
    omega⟩
 refine ⟨vl ++ [(x, kv, nv)], by simp, ?_, fun y hy => ?_⟩
 · rw [flatN_snoc, List.length_append]
   exact hown
 · rcases List.mem_append.1 hy with hy | hy
   · exact ⟨(((h3 y hy).1.mono hm1).kp hkp).mono hm2, (((h3 y hy).2.mono hm1).kp hkp).mono hm2⟩
   · obtain rfl := List.mem_singleton.1 hy
     exact ⟨((hk.mono hm1).kp hkp).mono hm2, ((hn.mono hm1).kp hkp).mono hm2⟩
end
end Tr
end Go.Proofs.YtbdgoimbddlcoaaGreatDoor
