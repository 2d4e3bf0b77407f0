/- Memory, with no package of the program in sight: blocks, rows of one's own; the library's variables; small's Parse (wip/gen/gen_base.py cuts this out of other texts). -/
import Derived.WalkKit
import Derived.Deep.Draws
import Derived.Deep.AppendLies
import Derived.Maps.AppendAt
import Derived.Lib.Hide
import Derived.BigQuiet
import Derived.Deep.Heap
import Derived.Deep.RegionWith
import Derived.Deep.RegionLaw
import Derived.OrdersHeld
import Derived.Deep.RegionHeld3
import Derived.WalkSmall
import Derived.Test.YtmmgfifpjifjnaaGreatDoorSmN
import Derived.Test.YtmmgfifpjifjnaaGreatDoorShelf
set_option linter.unusedVariables false
namespace Go.Proofs.YtmmgfifpjifjnaaGreatDoor
open Go.RowKit
namespace Hd
section
variable {P : Program} {ops : Array Oper} {Q : Exit → Act → World → Prop} {md : Region.Mode} {S : World → Prop}
def Waits (ops : Array Oper) (listed : Array Bool) : Prop := ∃ m, m < ops.size ∧ listed.getD m true = false
def wpE (P : Program) (md : Region.Mode) (ops : Array Oper) (Q : Exit → Act → World → Prop) (S : World → Prop) : Nat → Array Bool → Act → World → Prop
 | 0, listed, a, w => Region.ready md ops listed = [] ∧ Q .normal a w
 | fuel + 1, listed, a, w => (Region.ready md ops listed = [] → Q .normal a w) ∧
   ∀ j ∈ Region.ready md ops listed, wpOp P ops Q j (fun a' w' => (Waits ops (listed.setIfInBounds j true) → S w') ∧ wpE P md ops Q S fuel (listed.setIfInBounds j true) a' w') a w
theorem wpE_any : ∀ (fuel : Nat) (listed : Array Bool) (a : Act) (w : World), wpE P md ops Q S fuel listed a w → wpAny P md ops Q fuel listed a w
 | 0, _, _, _, h => h
 | fuel + 1, _, _, _, h => ⟨h.1, fun j hj => wpOp_mono (fun a' w' k => wpE_any fuel _ a' w' k.2) (h.2 j hj)⟩
theorem wpE_first {i m : Nat} {oi om : Oper} {v : Value} (hi : ops[i]? = some oi) (hm : ops[m]? = some om) (hdep : ∃ e ∈ om.after, Region.binds md e = true ∧ e.on = i)
  (hsel : ∀ (j : Nat) (o : Oper) cs b, ops[j]? = some o → o.op ≠ .select cs b) (hQ : ∀ c a w, Q (.panic c) (a.put oi.dst v) w → Q (.panic c) a w) :
  ∀ (fuel : Nat) (listed : Array Bool) (a : Act) (w : World),
   (∀ j oj, ops[j]? = some oj → j ≠ i → listed.getD j true = false → (∀ e ∈ oj.after, Region.binds md e = true → e.on ≠ i) → oi.apart ops oj = true) →
   i ∈ Region.ready md ops listed → listed.getD m true = false → YieldsIf P ops S oi v a → S w →
   wpE P md ops Q S fuel (listed.setIfInBounds i true) (a.put oi.dst v) w → wpE P md ops Q S (fuel + 1) listed a w := by
 intro fuel
 induction fuel with
 | zero =>
  intro listed a w _ hr _ hy hS H
  refine ⟨fun h => (by rw [h] at hr; cases hr), fun j hj => ?_⟩
  by_cases hji : j = i
  · subst hji; exact hy.wpOp hi hS ⟨fun _ => hS, H⟩
  have h0 := ready_mono hj hji
  rw [H.1] at h0
  cases h0
 | succ fuel ih =>
  intro listed a w hfree hr hun hy hS H
  have hil : listed.getD i true = false := (mem_ready.1 hr).1
  have hif : listed.getD i false = false := by
   rcases Nat.lt_or_ge i listed.size with h' | h'
   · simp [h'] at hil ⊢; exact hil
   simp [Array.getElem?_eq_none h'] at hil
  have hmr : ∀ j, j ∈ Region.ready md ops listed → m ≠ j := by
   intro j hj hmj
   subst hmj
   obtain ⟨_, o, ho, hall⟩ := mem_ready.1 hj
   rw [hm] at ho
   cases ho
   obtain ⟨e, he, hb, heq⟩ := hdep
   have := hall e he hb
   rw [heq, hif] at this
   cases this
  have hmi : m ≠ i := hmr i hr
  refine ⟨fun h => (by rw [h] at hr; cases hr), fun j hj => ?_⟩
  by_cases hji : j = i
  · subst hji; exact hy.wpOp hi hS ⟨fun _ => hS, H⟩
  have h1 := H.2 j (ready_mono hj hji)
  obtain ⟨hjun, oj, hoj, hall⟩ := mem_ready.1 hj
  have hnot : ∀ e ∈ oj.after, Region.binds md e = true → e.on ≠ i := fun e he hb heq => by
   have h2 := hall e he hb
   rw [heq, hif] at h2
   cases h2
  have h2 := wpOp_putIf hoj (hfree j oj hoj hji hjun hnot) (fun cs b => hsel i oi cs b hi) (fun cs b => hsel j oj cs b hoj) hQ hy h1
  have hmj : m ≠ j := hmr j hj
  have hw1 : (listed.setIfInBounds j true).getD m true = false := by rw [getD_set_ne true (Ne.symm hmj)]; exact hun
  have hw2 : Waits ops ((listed.setIfInBounds i true).setIfInBounds j true) := ⟨m, (Array.getElem?_eq_some_iff.1 hm).1, by rw [getD_set_ne true (Ne.symm hmj), getD_set_ne true (Ne.symm hmi)]; exact hun⟩
  have hfree' : ∀ k ok, ops[k]? = some ok → k ≠ i → (listed.setIfInBounds j true).getD k true = false →
    (∀ e ∈ ok.after, Region.binds md e = true → e.on ≠ i) → oi.apart ops ok = true := fun k ok hk hki hu hno => by
   refine hfree k ok hk hki ?_ hno
   by_cases hjk : j = k
   · subst hjk; exact hjun
   rw [getD_set_ne true hjk] at hu; exact hu
  refine wpOp_mono (fun a' w' h3 => ⟨fun _ => h3.2.1 hw2, ih (listed.setIfInBounds j true) a' w' hfree' (ready_mono hr (Ne.symm hji)) hw1 h3.1 (h3.2.1 hw2) ?_⟩) h2
  rw [Array.setIfInBounds_comm _ _ hji]
  exact h3.2.2
def dependsB (md : Region.Mode) (ops : Array Oper) (i m : Nat) : Bool := match ops[m]? with
 | some o => o.after.any fun e => Region.binds md e && e.on == i
 | none => false
theorem depends_spec {i m : Nat} (h : dependsB md ops i m = true) : ∃ om, ops[m]? = some om ∧ ∃ e ∈ om.after, Region.binds md e = true ∧ e.on = i := by
 unfold dependsB at h
 split at h
 · rename_i o ho
   obtain ⟨e, he, hb⟩ := Array.any_eq_true'.1 h
   simp only [Bool.and_eq_true, beq_iff_eq] at hb
   exact ⟨o, ho, e, he, hb.1, hb.2⟩
 cases h
theorem take (i m : Nat) {oi : Oper} {v : Value} {fuel : Nat} {listed : Array Bool} {a : Act} {w : World} (hi : ops[i]? = some oi)
  (hd : (dependsB md ops i m && (listed.getD m true == false) && Region.noSelect ops && Region.free md ops listed i && (Region.ready md ops listed).contains i) = true)
  (hQ : ∀ c a w, Q (.panic c) (a.put oi.dst v) w → Q (.panic c) a w) (hS : S w) (hw : Region.wanted oi (yielded ops a.tmps) = true) (hy : ∀ w, S w → (execOp a.eval oi).run P w = .ok (.value v) w)
  (h : wpE P md ops Q S fuel (listed.setIfInBounds i true) (a.put oi.dst v) w) : wpE P md ops Q S (fuel + 1) listed a w := by
 simp only [Bool.and_eq_true] at hd
 obtain ⟨⟨⟨⟨h1, h2⟩, h3⟩, h4⟩, h5⟩ := hd
 obtain ⟨om, hom, hdep⟩ := depends_spec h1
 exact wpE_first hi hom hdep (Region.noSelect_spec h3) hQ fuel listed a w (Region.free_spec hi h4) (by simpa using h5) (by simpa using h2) (.inl ⟨hw, hy⟩) hS h
theorem skip (i m : Nat) {oi : Oper} {fuel : Nat} {listed : Array Bool} {a : Act} {w : World} (hi : ops[i]? = some oi)
  (hd : (dependsB md ops i m && (listed.getD m true == false) && Region.noSelect ops && Region.free md ops listed i && (Region.ready md ops listed).contains i) = true)
  (hQ : ∀ c a w, Q (.panic c) (a.put oi.dst undef) w → Q (.panic c) a w) (hS : S w) (hw : Region.wanted oi (yielded ops a.tmps) = false)
  (h : wpE P md ops Q S fuel (listed.setIfInBounds i true) (a.put oi.dst undef) w) : wpE P md ops Q S (fuel + 1) listed a w := by
 simp only [Bool.and_eq_true] at hd
 obtain ⟨⟨⟨⟨h1, h2⟩, h3⟩, h4⟩, h5⟩ := hd
 obtain ⟨om, hom, hdep⟩ := depends_spec h1
 exact wpE_first hi hom hdep (Region.noSelect_spec h3) hQ fuel listed a w (Region.free_spec hi h4) (by simpa using h5) (by simpa using h2) (.inr ⟨hw, rfl⟩) hS h
theorem one (i m : Nat) {o : Oper} {fuel : Nat} {listed : Array Bool} {a : Act} {w : World} (ho : ops[i]? = some o) (hr : Region.ready md ops listed = [i])
  (h : ∀ K' : Act → World → Prop, Shut (∀ a w, S w → (S w → wpE P md ops Q S fuel (listed.setIfInBounds i true) a w) → K' a w) → if Region.wanted o (yielded ops a.tmps) = true then Oper.wp P o a w K' Q else K' (a.put o.dst undef) w) : wpE P md ops Q S (fuel + 1) listed a w :=
 ⟨fun h0 => (by rw [hr] at h0; cases h0), fun j hj => by
  rw [hr] at hj
  obtain rfl := List.mem_singleton.1 hj
  exact wpOp_step ho (fun K' hK => h K' (fun a w hS hW => hK a w ⟨fun _ => hS, hW hS⟩))⟩
theorem two (i j : Nat) {o p : Oper} {fuel : Nat} {listed : Array Bool} {a : Act} {w : World} (ho : ops[i]? = some o) (hp : ops[j]? = some p) (hr : Region.ready md ops listed = [i, j])
  (h : ∀ K' : Act → World → Prop, Shut (∀ a w, S w → (S w → wpE P md ops Q S fuel (listed.setIfInBounds i true) a w) → K' a w) → if Region.wanted o (yielded ops a.tmps) = true then Oper.wp P o a w K' Q else K' (a.put o.dst undef) w)
  (k : ∀ K' : Act → World → Prop, Shut (∀ a w, S w → (S w → wpE P md ops Q S fuel (listed.setIfInBounds j true) a w) → K' a w) → if Region.wanted p (yielded ops a.tmps) = true then Oper.wp P p a w K' Q else K' (a.put p.dst undef) w) : wpE P md ops Q S (fuel + 1) listed a w :=
 ⟨fun h0 => (by rw [hr] at h0; cases h0), fun m hm => by
  rw [hr] at hm
  rcases List.mem_cons.1 hm with rfl | hm
  · exact wpOp_step ho (fun K' hK => h K' (fun a w hS hW => hK a w ⟨fun _ => hS, hW hS⟩))
  obtain rfl := List.mem_singleton.1 hm
  exact wpOp_step hp (fun K' hK => k K' (fun a w hS hW => hK a w ⟨fun _ => hS, hW hS⟩))⟩
theorem last (i : Nat) {o : Oper} {fuel : Nat} {listed : Array Bool} {a : Act} {w : World} (ho : ops[i]? = some o) (hr : Region.ready md ops listed = [i]) (hl : (List.range ops.size).all (fun m => (listed.setIfInBounds i true).getD m true) = true)
  (hr2 : Region.ready md ops (listed.setIfInBounds i true) = [])
  (h : ∀ K' : Act → World → Prop, Shut (∀ a w, Q .normal a w → K' a w) → if Region.wanted o (yielded ops a.tmps) = true then Oper.wp P o a w K' Q else K' (a.put o.dst undef) w) : wpE P md ops Q S (fuel + 1) listed a w :=
 ⟨fun h0 => (by rw [hr] at h0; cases h0), fun j hj => by
  rw [hr] at hj
  obtain rfl := List.mem_singleton.1 hj
  refine wpOp_step ho (fun K' hK => h K' (fun a w hq => hK a w ⟨fun ⟨m, hm, hf⟩ => ?_, ?_⟩))
  · have := List.all_eq_true.1 hl m (List.mem_range.2 hm)
    rw [this] at hf
    cases hf
  cases fuel with
  | zero => exact ⟨hr2, hq⟩
  | succ n => exact ⟨fun _ => hq, by rw [hr2]; intro j hj; cases hj⟩⟩
theorem start (S : World → Prop) {id : Nat} {a : Act} {w : World} (hm : P.follows .mixedOrders = true) (hS : S w.drew)
  (h : S w.drew → wpE P .any ops Q S ops.size (Array.replicate ops.size false) a w.drew) : (Code.region id ops true).wp P Q a w :=
 wp_region_any hm (wpE_any _ _ _ _ (h hS))
end
section
variable {P : Program} {ops : Array Oper} {Q : Exit → Act → World → Prop} {md : Region.Mode} {S : World → Prop}
theorem tk (i m : Nat) {oi : Oper} {v : Value} {fuel : Nat} {listed : Array Bool} {a a' : Act} {w : World} (hS : S w) (h : wpE P md ops Q S fuel (listed.setIfInBounds i true) a' w)
  (hi : ops[i]? = some oi := by simp only [Hd.ga, Hd.gs, Hd.gz]; exact rfl)
  (hd : (dependsB md ops i m && (listed.getD m true == false) && Region.noSelect ops && Region.free md ops listed i && (Region.ready md ops listed).contains i) = true := by kernel_rfl)
  (hQ : ∀ c a w, Q (.panic c) (a.put oi.dst v) w → Q (.panic c) a w := by exact fun _ _ _ h => h) (hw : Region.wanted oi (yielded ops a.tmps) = true := by rfl)
  (hy : ∀ w, S w → (execOp a.eval oi).run P w = .ok (.value v) w := by intro w hSw; (try dsimp only at hSw); go_simp; try with_reducible rfl)
  (ha : a.put oi.dst v = a' := by first | (simp only [Act.put, Hd.sa, Hd.sz, Hd.ss]; exact rfl) | exact rfl) : wpE P md ops Q S (fuel + 1) listed a w := by
 subst ha; exact take i m hi hd hQ hS hw hy h
theorem sk (i m : Nat) {oi : Oper} {fuel : Nat} {listed : Array Bool} {a a' : Act} {w : World} (hS : S w) (h : wpE P md ops Q S fuel (listed.setIfInBounds i true) a' w)
  (hi : ops[i]? = some oi := by simp only [Hd.ga, Hd.gs, Hd.gz]; exact rfl)
  (hd : (dependsB md ops i m && (listed.getD m true == false) && Region.noSelect ops && Region.free md ops listed i && (Region.ready md ops listed).contains i) = true := by kernel_rfl)
  (hQ : ∀ c a w, Q (.panic c) (a.put oi.dst undef) w → Q (.panic c) a w := by exact fun _ _ _ h => h) (hw : Region.wanted oi (yielded ops a.tmps) = false := by rfl)
  (ha : a.put oi.dst undef = a' := by first | (simp only [Act.put, Hd.sa, Hd.sz, Hd.ss]; exact rfl) | exact rfl) : wpE P md ops Q S (fuel + 1) listed a w := by
 subst ha; exact skip i m hi hd hQ hS hw h
theorem on (i : Nat) {o : Oper} {fuel : Nat} {listed : Array Bool} {a : Act} {w : World}
  (h : ∀ K' : Act → World → Prop, Shut (∀ a w, S w → (S w → wpE P md ops Q S fuel (listed.setIfInBounds i true) a w) → K' a w) → if Region.wanted o (yielded ops a.tmps) = true then Oper.wp P o a w K' Q else K' (a.put o.dst undef) w)
  (ho : ops[i]? = some o := by simp only [Hd.ga, Hd.gs, Hd.gz]; exact rfl) (hr : Region.ready md ops listed = [i] := by kernel_rfl) : wpE P md ops Q S (fuel + 1) listed a w :=
 one i i ho hr h
theorem la (i : Nat) {o : Oper} {fuel : Nat} {listed : Array Bool} {a : Act} {w : World}
  (h : ∀ K' : Act → World → Prop, Shut (∀ a w, Q .normal a w → K' a w) → if Region.wanted o (yielded ops a.tmps) = true then Oper.wp P o a w K' Q else K' (a.put o.dst undef) w)
  (ho : ops[i]? = some o := by simp only [Hd.ga, Hd.gs, Hd.gz]; exact rfl) (hr : Region.ready md ops listed = [i] := by kernel_rfl) (hl : (List.range ops.size).all (fun m => (listed.setIfInBounds i true).getD m true) = true := by kernel_rfl)
  (hr2 : Region.ready md ops (listed.setIfInBounds i true) = [] := by kernel_rfl) : wpE P md ops Q S (fuel + 1) listed a w :=
 last i ho hr hl hr2 h
end
theorem ga {α : Type _} {l : List α} {i : Nat} : l.toArray[i]? = l[i]? := List.getElem?_toArray
theorem gs {α : Type _} {a : α} {l : List α} {i : Nat} : (a :: l)[i + 1]? = l[i]? := List.getElem?_cons_succ
theorem gz {α : Type _} {a : α} {l : List α} : (a :: l)[0]? = some a := List.getElem?_cons_zero
theorem sa {α : Type _} {l : List α} {i : Nat} {a : α} : l.toArray.setIfInBounds i a = (l.set i a).toArray := List.setIfInBounds_toArray _ _ _
theorem sz {α : Type _} {a b : α} {l : List α} : (a :: l).set 0 b = b :: l := List.set_cons_zero
theorem ss {α : Type _} {a b : α} {l : List α} {n : Nat} : (a :: l).set (n + 1) b = a :: l.set n b := List.set_cons_succ
end Hd
namespace Bs
open Sm
abbrev Bytes : Type := List UInt8
def Done (x : Value) (w : World) (e : Ending) (w' : World) : Prop := e = .returned x ∧ w = w'
def Back (v : Value) (w : World) (e : Ending) (w' : World) : Prop := e = .returned v ∧ Below w.heap.size w w'
def Blk (T k : Nat) (cs : Array Value) (w : World) : Prop := w.heap[k]? = some (.cells cs T (0, 0))
section
variable {T k : Nat} {cs : Array Value} {w w' : World}
theorem Blk.c (h : Blk T k cs w) (i : Nat) (u : Value) (hu : cs[i]? = some u) : w.cell? ⟨k, i, none⟩ = some u := by
 have := cell_of_row w k i cs T (0, 0) h
 rw [this]; exact hu
theorem Blk.fz (h : Blk T k cs w) (i : Nat) : w.frozen? ⟨k, i, none⟩ = false := by unfold Blk at h; simp [World.frozen?, h]
theorem Blk.lt (h : Blk T k cs w) : k < w.heap.size := by
 rcases Nat.lt_or_ge k w.heap.size with hlt | hge
 · exact hlt
 unfold Blk at h; rw [Array.getElem?_eq_none hge] at h; cases h
theorem Blk.drewN (h : Blk T k cs w) (m : Nat) : Blk T k cs (w.drewN m) := h
theorem Blk.below {B : Nat} (h : Blk T k cs w) (hb : Below B w w') (hB : k < B) : Blk T k cs w' := (hb.block k hB).trans h
theorem Blk.alloc (h : Blk T k cs w) (o : Obj) : Blk T k cs (w.alloc o) := (Below.heap_alloc w o k h.lt).trans h
theorem Blk.far (h : Blk T k cs w) {p : Addr} (hp : k ≠ p.block) (u : Value) : Blk T k cs (w.setCell p u) := (Below.heap_setCell w p u k hp).trans h
theorem Blk.made (w : World) : Blk T w.heap.size cs (w.alloc (.cells cs T)) := Go.Deep.blk_alloc_new w _
theorem Blk.set_ (h : Blk T k cs w) (i : Nat) (u : Value) (cs' : Array Value) (hc : cs.setIfInBounds i u = cs') : Blk T k cs' (w.setCell ⟨k, i, none⟩ u) := by
 unfold Blk at h ⊢
 simp [World.setCell, Array.getElem?_modify, h, hc]
end
theorem own_mono {w : World} {base base' e size n : Nat} {v : Value} {xs : List Value} (h : w.ownsRow base e size v n xs) (hb : base' ≤ base) : w.ownsRow base' e size v n xs := by
 obtain ⟨h1, h2⟩ := h
 refine ⟨h1, ?_⟩
 rcases h2 with hn | ⟨g, cap, cur, rfl, hbg, rest⟩
 · exact .inl hn
 exact .inr ⟨g, cap, cur, rfl, Nat.le_trans hb hbg, rest⟩
theorem own_below {w w' : World} {base e size n : Nat} {v : Value} {xs : List Value} (h : w.ownsRow base e size v n xs) (hb : Below w.heap.size w w') : w'.ownsRow base e size v n xs := by
 obtain ⟨h1, h2⟩ := h
 refine ⟨h1, ?_⟩
 rcases h2 with hn | ⟨g, cap, cur, rfl, hbg, hg, rest⟩
 · exact .inl hn
 exact .inr ⟨g, cap, cur, rfl, hbg, (hb.block g (Array.getElem?_eq_some_iff.1 hg).1).trans hg, rest⟩
def strV (b : Bytes) : Value := .string ⟨b.toArray⟩
theorem own_form {w : World} {B e size n : Nat} {v : Value} {xs : List Value} (h : w.ownsRow B e size v n xs) (hn : 0 < n) : ∃ gg c, v = .slice (some ⟨gg, 0, none⟩) n c := by
 rcases h.2 with ⟨rfl, rfl⟩ | ⟨gg, c, cur, rfl, _⟩
 · omega
 exact ⟨_, _, rfl⟩
theorem own_slice {w : World} {B e size n : Nat} {v : Value} {xs : List Value} (h : w.ownsRow B e size v n xs) : ∃ ao c, v = .slice ao n c ∧ (0 < n → ∃ gg, ao = some ⟨gg, 0, none⟩ ∧ B ≤ gg ∧ gg < w.heap.size ∧ n ≤ c ∧ c ≤ maxLen) := by
 have hlt := h.lt
 rcases h.2 with ⟨rfl, rfl⟩ | ⟨gg, c, cur, rfl, h1, h2, h3, h4, _⟩
 · exact ⟨none, 0, rfl, fun h => absurd h (by omega)⟩
 exact ⟨_, _, rfl, fun _ => ⟨gg, rfl, h1, (hlt gg rfl).2, h3, h4⟩⟩
section
variable {w w' : World} {B e size n B' e' size' n' T k : Nat} {v v' : Value} {xs xs' : List Value} {cs : Array Value}
theorem blk_grown_at (hk : Blk T k cs w) (hg : w.grownBy w' v.ownBlock) (h : w.ownsRow B e size v n xs) (hkB : k < B) : Blk T k cs w' :=
 (hg.block k hk.lt (fun h' => by have := (h.lt k h'.symm).1; omega)).trans hk
theorem own_set_at (h : w.ownsRow B e size v n xs) (hkB : k < B) (i : Nat) (u : Value) : (w.setCell ⟨k, i, none⟩ u).ownsRow B e size v n xs :=
 h.kept (row := some k) ⟨rfl, rfl, rfl, by simp [World.setCell], fun j _ hj => Below.heap_setCell _ _ _ _ (fun e => hj (by simp [e]))⟩ (.inr (fun h' => by have := (h.lt k h').1; omega))
end
def ErrVar (w : World) : Prop := ∃ tp p, w.var? Tryz.prog "strconv.ErrRange" = some #[.iface tp p]
theorem ErrVar.below {w w' : World} (h : ErrVar w) (hb : Below w.heap.size w w') : ErrVar w' := by
 obtain ⟨tp, p, hv⟩ := h
 refine ⟨tp, p, ?_⟩
 have hg : Tryz.prog.globalNamed "strconv.ErrRange" = some 2 := by kernel_rfl
 refine var?_below hb hg ?_ hv
 rcases Nat.lt_or_ge 2 w.heap.size with h | h
 · exact h
 exfalso
 unfold World.var? at hv
 simp only [hg, Option.bind_some, Array.getElem?_eq_none h] at hv
 cases hv
def MaxV (w : World) : Prop := ∃ m, w.cell? ⟨0, 0, none⟩ = some (.int .i64 m)
theorem MaxV.lt {w : World} (h : MaxV w) : 0 < w.heap.size := by
 obtain ⟨m, hm⟩ := h
 rcases Nat.lt_or_ge 0 w.heap.size with h | h
 · exact h
 unfold World.cell? at hm; simp [Array.getElem?_eq_none h] at hm
theorem MaxV.below {w w' : World} (h : MaxV w) (hb : Below w.heap.size w w') : MaxV w' := by
 have hl := h.lt
 obtain ⟨m, hm⟩ := h
 exact ⟨m, (hb.cell (p := ⟨_, 0, none⟩) hl).trans hm⟩
def Pow10 (w : World) : Prop := Lib.TabIs Tryz.prog w "internal/strconv.uint64pow10" .u64 Lib.pow10Tab
theorem Pow10.below {w w' : World} (h : Pow10 w) (hb : Below w.heap.size w w') : Pow10 w' := by
 have hg : Tryz.prog.globalNamed "internal/strconv.uint64pow10" = some 5 := by kernel_rfl
 unfold Pow10 Lib.TabIs at *
 refine var?_below hb hg ?_ h
 rcases Nat.lt_or_ge 5 w.heap.size with hh | hh
 · exact hh
 exfalso
 unfold World.var? at h
 simp only [hg, Option.bind_some, Array.getElem?_eq_none hh] at h
 cases h
theorem str_ne {x s : ByteArray} (h : ¬ x = s) : (x.toList == s.toList) = false := by
 rw [beq_eq_false_iff_ne]
 intro e
 rw [ByteArray.toList_eq, ByteArray.toList_eq] at e
 exact h (ByteArray.ext (Array.toList_inj.1 e))
theorem trim_call (s : List UInt8) (w : World) (hs : s.length ≤ 9223372036854775807) :
  Calls Tryz.prog 159 #[.string ⟨s.toArray⟩, .string ⟨#[48, 49, 50, 51, 52, 53, 54, 55, 56, 57]⟩] w (Back (.string ⟨(Lib.trimS s [48, 49, 50, 51, 52, 53, 54, 55, 56, 57]).toArray⟩) w) :=
 (Any.strings_Trim_laid Tryz.lays160 (by kernel_rfl) ⟨s.toArray⟩ ⟨#[48, 49, 50, 51, 52, 53, 54, 55, 56, 57]⟩ w (by simpa [ByteArray.size] using hs) (by decide) (ascii_of_all (by decide)))
theorem prefix_call (s : ByteArray) (w : World) :
  Calls Tryz.prog 158 #[.string s, .string ⟨#[45]⟩] w (Done (.string ⟨(digs s.data.toList).toArray⟩) w) :=
 (Tryz.strings_TrimPrefix s ⟨#[45]⟩ w).mono fun _ _ ⟨he, hw⟩ => ⟨he, hw.symm⟩
theorem digs_le (l : List UInt8) : (digs l).length ≤ l.length := by
 rcases digs_cases l with ⟨r, e1, e2, _⟩ | ⟨e2, _⟩
 · rw [e2, e1]; simp
 rw [e2]; exact Nat.le_refl _
theorem bytesWorld_below (w : World) (e : TypeId) (t : ByteArray) : Below w.heap.size w (Lib.bytesWorld w e t) := by
 have h1 : Below w.heap.size w (w.drew.alloc (.cells (Lib.bytesCells w e t) e)) := ((Below.refl _ _).drew).alloc (Nat.le_refl _) _
 refine h1.trans ?_
 unfold Lib.bytesWorld World.freeze
 rw [if_neg (by decide)]
 exact ⟨rfl, rfl, rfl, by simp, fun k hk => by
  rw [Array.getElem?_modify, if_neg (by show ¬ w.heap.size = k; omega)]⟩
set_option maxHeartbeats 1000000 in
theorem parse_any (s : ByteArray) (w : World) (hs : s.size ≤ 281474976710656) (hv : ErrVar w) :
  Calls Tryz.prog 146 #[.string s] w (Back (.tuple #[.int .i64 (pv s.data.toList), .int .i64 (pe s.data.toList)]) w) := by
 obtain ⟨d, hd⟩ : ∃ d, digs s.data.toList = d := ⟨_, rfl⟩
 have hdl : d.length ≤ 9223372036854775807 := by
  rw [← hd]; have := digs_le s.data.toList; have : s.data.toList.length = s.size := rfl; omega
 by_cases h0 : d = []
 · have e1 : pe s.data.toList = 3 := by unfold pe okd; rw [hd, h0]; rfl
   have e2 : pv s.data.toList = 0 := by unfold pv; rw [e1]; rfl
   rw [e1, e2]
   subst h0
   have HD := Lib.hid hd; clear hd e1 e2
   go_enter Tryz.func146, Tryz.ntmps146
   go_wp2_with fail
   refine (prefix_call _ _).mono ?_; rintro e w' ⟨rfl, rfl⟩
   rw [HD.out]
   go_wp2_with fail
   go_ret2
   exact ⟨rfl, Below.refl _ _⟩
 have h0b : d.isEmpty = false := by simpa using h0
 by_cases hall : d.all isd = true
 · have hok : okd s.data.toList = true := by unfold okd; rw [hd]; simp [h0, hall]
   have ht : Lib.trimS d [48, 49, 50, 51, 52, 53, 54, 55, 56, 57] = [] := (trim_all d).2 hall
   have HT := Lib.hid ht
   have HD := Lib.hid hd
   clear ht hd hall
   rcases parse_num s.data.toList hok with ⟨hp, p1, p2⟩ | ⟨hp, hno⟩
   · have HP := Lib.hid hp; clear hp
     by_cases hin : -4611686018427387904 ≤ num s.data.toList ∧ num s.data.toList ≤ 4611686018427387903
     · have e1 : pe s.data.toList = 0 := by unfold pe; rw [if_pos hok, if_pos hin]
       have e2 : pv s.data.toList = num s.data.toList := by unfold pv; rw [if_pos e1]
       rw [e1, e2]
       obtain ⟨v, hv'⟩ : ∃ v, num s.data.toList = v := ⟨_, rfl⟩
       rw [hv'] at HP hin p1 p2 ⊢
       obtain ⟨i1, i2⟩ := hin
       clear e1 e2 hok hv'
       go_enter Tryz.func146, Tryz.ntmps146
       go_wp2_with fail
       refine (prefix_call _ _).mono ?_; rintro e w' ⟨rfl, rfl⟩
       rw [HD.out]
       go_wp2_with fail
       refine (trim_call _ _ hdl).mono ?_; rintro e w1 ⟨rfl, hb1⟩
       rw [HT.out]
       go_wp2_with fail
       refine (Tryz.strconv_ParseInt_10_at64_ok s (by omega) v HP.out _).mono ?_; rintro e w2 ⟨rfl, hw2⟩
       have hb2 : Below w1.heap.size w1 w2 := by
        rcases hw2 with rfl | ⟨t, rfl⟩
        · exact Below.refl _ _
        exact bytesWorld_below _ _ _
       clear hw2
       go_wp2_with fail
       go_ret2
       exact ⟨rfl, hb1.trans (hb2.mono hb1.size)⟩
     have e1 : pe s.data.toList = 9 := by unfold pe; rw [if_pos hok, if_neg hin]
     have e2 : pv s.data.toList = 0 := by unfold pv; rw [e1]; rfl
     rw [e1, e2]
     obtain ⟨v, hv'⟩ : ∃ v, num s.data.toList = v := ⟨_, rfl⟩
     rw [hv'] at HP hin p1 p2
     clear e1 e2 hok hv'
     by_cases hlo : v < -4611686018427387904
     all_goals
      have hhi : v < -4611686018427387904 ∨ 4611686018427387903 < v := by omega
      clear hin
      go_enter Tryz.func146, Tryz.ntmps146
      go_wp2_with fail
      refine (prefix_call _ _).mono ?_; rintro e w' ⟨rfl, rfl⟩
      rw [HD.out]
      go_wp2_with fail
      refine (trim_call _ _ hdl).mono ?_; rintro e w1 ⟨rfl, hb1⟩
      rw [HT.out]
      go_wp2_with fail
      refine (Tryz.strconv_ParseInt_10_at64_ok s (by omega) v HP.out _).mono ?_; rintro e w2 ⟨rfl, hw2⟩
      have hb2 : Below w1.heap.size w1 w2 := by
       rcases hw2 with rfl | ⟨t, rfl⟩
       · exact Below.refl _ _
       exact bytesWorld_below _ _ _
      clear hw2
      go_wp2_with fail
      go_ret2
      exact ⟨rfl, hb1.trans (hb2.mono hb1.size)⟩
   have e1 : pe s.data.toList = 9 := by unfold pe; rw [if_pos hok]; exact if_neg hno
   have e2 : pv s.data.toList = 0 := by unfold pv; rw [e1]; rfl
   rw [e1, e2]
   have HP := Lib.hid hp
   have HV := Lib.hid hv
   clear e1 e2 hok hno hp hv
   go_enter Tryz.func146, Tryz.ntmps146
   go_wp2_with fail
   refine (prefix_call _ _).mono ?_; rintro e w' ⟨rfl, rfl⟩
   rw [HD.out]
   go_wp2_with fail
   refine (trim_call _ _ hdl).mono ?_; rintro e w1 ⟨rfl, hb1⟩
   rw [HT.out]
   obtain ⟨tp, p, hv1⟩ := HV.out.below hb1
   have HV1 := Lib.hid hv1; clear hv1
   go_wp2_with fail
   refine (Tryz.strconv_ParseInt_10_at64_range_var s hs HP.out tp p _ HV1.out).mono ?_; rintro e w2 ⟨N, rfl, _, _, hb2⟩
   go_wp2_with fail
   go_ret2
   exact ⟨rfl, hb1.trans (hb2.mono hb1.size)⟩
 have e1 : pe s.data.toList = 3 := by unfold pe okd; rw [hd]; simp [hall]
 have e2 : pv s.data.toList = 0 := by unfold pv; rw [e1]; rfl
 rw [e1, e2]
 have ht : ¬ Lib.trimS d [48, 49, 50, 51, 52, 53, 54, 55, 56, 57] = [] := fun h => hall ((trim_all d).1 h)
 have HD := Lib.hid hd
 clear hd e1 e2 hall
 obtain ⟨t, htt⟩ : ∃ t, Lib.trimS d [48, 49, 50, 51, 52, 53, 54, 55, 56, 57] = t := ⟨_, rfl⟩
 rw [htt] at ht
 have htb : t.isEmpty = false := by simpa using ht
 have HT := Lib.hid htt; clear htt
 go_enter Tryz.func146, Tryz.ntmps146
 go_wp2_with fail
 refine (prefix_call _ _).mono ?_; rintro e w' ⟨rfl, rfl⟩
 rw [HD.out]
 go_wp2_with fail
 refine (trim_call _ _ hdl).mono ?_; rintro e w1 ⟨rfl, hb1⟩
 rw [HT.out]
 go_wp2_with fail
 go_ret2
 exact ⟨rfl, hb1⟩
end Bs
end Go.Proofs.YtmmgfifpjifjnaaGreatDoor
