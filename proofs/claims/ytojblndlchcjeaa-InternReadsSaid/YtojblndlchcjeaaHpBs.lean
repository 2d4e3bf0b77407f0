/- Memory, with no package of the program in sight: blocks, rows of one's own; the library's variables; small's Parse (wip/gen/gen_base.py cuts this out of other texts). -/
import Derived.WalkKit
import Derived.Deep.Draws
import Derived.Deep.AppendLies
import Derived.Maps.AppendAt
import Derived.Lib.Hide
import Derived.BigQuiet
import Derived.Deep.Heap
import Derived.Deep.RegionWith
import Derived.Deep.RegionLaw
import Derived.OrdersHeld
import Derived.WalkSmall
import Derived.Test.YtojblndlchcjeaaHpAa
import Derived.Deep.RegionHeld3
import Derived.StillTailTactics
set_option linter.unusedVariables false
namespace Go.Proofs.Ytojblndlchcjeaa
open Go.RowKit
namespace Hd
section
variable {P : Program} {ops : Array Oper} {Q : Exit → Act → World → Prop} {md : Region.Mode} {S : World → Prop}
/-- Some operation has not come up yet. -/
def Waits (ops : Array Oper) (listed : Array Bool) : Prop := ∃ m, m < ops.size ∧ listed.getD m true = false
/-- In whatever order: behind each operation S holds, as long as one waits. -/
def wpE (P : Program) (md : Region.Mode) (ops : Array Oper) (Q : Exit → Act → World → Prop) (S : World → Prop) : Nat → Array Bool → Act → World → Prop
  | 0, listed, a, w => Region.ready md ops listed = [] ∧ Q .normal a w
  | fuel + 1, listed, a, w => (Region.ready md ops listed = [] → Q .normal a w) ∧
      ∀ j ∈ Region.ready md ops listed, wpOp P ops Q j (fun a' w' => (Waits ops (listed.setIfInBounds j true) → S w') ∧ wpE P md ops Q S fuel (listed.setIfInBounds j true) a' w') a w
theorem wpE_any : ∀ (fuel : Nat) (listed : Array Bool) (a : Act) (w : World), wpE P md ops Q S fuel listed a w → wpAny P md ops Q fuel listed a w
  | 0, _, _, _, h => h
  | fuel + 1, _, _, _, h => ⟨h.1, fun j hj => wpOp_mono (fun a' w' k => wpE_any fuel _ a' w' k.2) (h.2 j hj)⟩
/-- An operation whose value another one waits for may be taken first, if it yields its value in every world that meets S. -/
theorem wpE_first {i m : Nat} {oi om : Oper} {v : Value} (hi : ops[i]? = some oi) (hm : ops[m]? = some om) (hdep : ∃ e ∈ om.after, Region.binds md e = true ∧ e.on = i)
    (hsel : ∀ (j : Nat) (o : Oper) cs b, ops[j]? = some o → o.op ≠ .select cs b) (hQ : ∀ c a w, Q (.panic c) (a.put oi.dst v) w → Q (.panic c) a w) :
    ∀ (fuel : Nat) (listed : Array Bool) (a : Act) (w : World),
      (∀ j oj, ops[j]? = some oj → j ≠ i → listed.getD j true = false → (∀ e ∈ oj.after, Region.binds md e = true → e.on ≠ i) → oi.apart ops oj = true) →
      i ∈ Region.ready md ops listed → listed.getD m true = false → YieldsIf P ops S oi v a → S w →
      wpE P md ops Q S fuel (listed.setIfInBounds i true) (a.put oi.dst v) w → wpE P md ops Q S (fuel + 1) listed a w := by
  intro fuel
  induction fuel with
  | zero =>
    intro listed a w _ hr _ hy hS H
    refine ⟨fun h => (by rw [h] at hr; cases hr), fun j hj => ?_⟩
    by_cases hji : j = i
    · subst hji; exact hy.wpOp hi hS ⟨fun _ => hS, H⟩
    · have h0 := ready_mono hj hji
      rw [H.1] at h0
      cases h0
  | succ fuel ih =>
    intro listed a w hfree hr hun hy hS H
    have hil : listed.getD i true = false := (mem_ready.1 hr).1
    have hif : listed.getD i false = false := by
      rcases Nat.lt_or_ge i listed.size with h' | h'
      · simp [h'] at hil ⊢; exact hil
      · simp [Array.getElem?_eq_none h'] at hil
    have hmr : ∀ j, j ∈ Region.ready md ops listed → m ≠ j := by
      intro j hj hmj
      subst hmj
      obtain ⟨_, o, ho, hall⟩ := mem_ready.1 hj
      rw [hm] at ho
      cases ho
      obtain ⟨e, he, hb, heq⟩ := hdep
      have := hall e he hb
      rw [heq, hif] at this
      cases this
    have hmi : m ≠ i := hmr i hr
    refine ⟨fun h => (by rw [h] at hr; cases hr), fun j hj => ?_⟩
    by_cases hji : j = i
    · subst hji; exact hy.wpOp hi hS ⟨fun _ => hS, H⟩
    · have h1 := H.2 j (ready_mono hj hji)
      obtain ⟨hjun, oj, hoj, hall⟩ := mem_ready.1 hj
      have hnot : ∀ e ∈ oj.after, Region.binds md e = true → e.on ≠ i := fun e he hb heq => by
        have h2 := hall e he hb
        rw [heq, hif] at h2
        cases h2
      have h2 := wpOp_putIf hoj (hfree j oj hoj hji hjun hnot) (fun cs b => hsel i oi cs b hi) (fun cs b => hsel j oj cs b hoj) hQ hy h1
      have hmj : m ≠ j := hmr j hj
      have hw1 : (listed.setIfInBounds j true).getD m true = false := by rw [getD_set_ne true (Ne.symm hmj)]; exact hun
      have hw2 : Waits ops ((listed.setIfInBounds i true).setIfInBounds j true) := ⟨m, (Array.getElem?_eq_some_iff.1 hm).1, by rw [getD_set_ne true (Ne.symm hmj), getD_set_ne true (Ne.symm hmi)]; exact hun⟩
      have hfree' : ∀ k ok, ops[k]? = some ok → k ≠ i → (listed.setIfInBounds j true).getD k true = false →
          (∀ e ∈ ok.after, Region.binds md e = true → e.on ≠ i) → oi.apart ops ok = true := fun k ok hk hki hu hno => by
        refine hfree k ok hk hki ?_ hno
        by_cases hjk : j = k
        · subst hjk; exact hjun
        · rw [getD_set_ne true hjk] at hu; exact hu
      refine wpOp_mono (fun a' w' h3 => ⟨fun _ => h3.2.1 hw2, ih (listed.setIfInBounds j true) a' w' hfree' (ready_mono hr (Ne.symm hji)) hw1 h3.1 (h3.2.1 hw2) ?_⟩) h2
      rw [Array.setIfInBounds_comm _ _ hji]
      exact h3.2.2
def dependsB (md : Region.Mode) (ops : Array Oper) (i m : Nat) : Bool := match ops[m]? with
  | some o => o.after.any fun e => Region.binds md e && e.on == i
  | none => false
theorem depends_spec {i m : Nat} (h : dependsB md ops i m = true) : ∃ om, ops[m]? = some om ∧ ∃ e ∈ om.after, Region.binds md e = true ∧ e.on = i := by
  unfold dependsB at h
  split at h
  · rename_i o ho
    obtain ⟨e, he, hb⟩ := Array.any_eq_true'.1 h
    simp only [Bool.and_eq_true, beq_iff_eq] at hb
    exact ⟨o, ho, e, he, hb.1, hb.2⟩
  · cases h
/-- Take number i first (number m waits for it). -/
theorem take (i m : Nat) {oi : Oper} {v : Value} {fuel : Nat} {listed : Array Bool} {a : Act} {w : World} (hi : ops[i]? = some oi)
    (hd : (dependsB md ops i m && (listed.getD m true == false) && Region.noSelect ops && Region.free md ops listed i && (Region.ready md ops listed).contains i) = true)
    (hQ : ∀ c a w, Q (.panic c) (a.put oi.dst v) w → Q (.panic c) a w) (hS : S w) (hw : Region.wanted oi (yielded ops a.tmps) = true) (hy : ∀ w, S w → (execOp a.eval oi).run P w = .ok (.value v) w)
    (h : wpE P md ops Q S fuel (listed.setIfInBounds i true) (a.put oi.dst v) w) : wpE P md ops Q S (fuel + 1) listed a w := by
  simp only [Bool.and_eq_true] at hd
  obtain ⟨⟨⟨⟨h1, h2⟩, h3⟩, h4⟩, h5⟩ := hd
  obtain ⟨om, hom, hdep⟩ := depends_spec h1
  exact wpE_first hi hom hdep (Region.noSelect_spec h3) hQ fuel listed a w (Region.free_spec hi h4) (by simpa using h5) (by simpa using h2) (.inl ⟨hw, hy⟩) hS h
/-- An operation that is not wanted. -/
theorem skip (i m : Nat) {oi : Oper} {fuel : Nat} {listed : Array Bool} {a : Act} {w : World} (hi : ops[i]? = some oi)
    (hd : (dependsB md ops i m && (listed.getD m true == false) && Region.noSelect ops && Region.free md ops listed i && (Region.ready md ops listed).contains i) = true)
    (hQ : ∀ c a w, Q (.panic c) (a.put oi.dst undef) w → Q (.panic c) a w) (hS : S w) (hw : Region.wanted oi (yielded ops a.tmps) = false)
    (h : wpE P md ops Q S fuel (listed.setIfInBounds i true) (a.put oi.dst undef) w) : wpE P md ops Q S (fuel + 1) listed a w := by
  simp only [Bool.and_eq_true] at hd
  obtain ⟨⟨⟨⟨h1, h2⟩, h3⟩, h4⟩, h5⟩ := hd
  obtain ⟨om, hom, hdep⟩ := depends_spec h1
  exact wpE_first hi hom hdep (Region.noSelect_spec h3) hQ fuel listed a w (Region.free_spec hi h4) (by simpa using h5) (by simpa using h2) (.inr ⟨hw, rfl⟩) hS h
/-- The only one that may come up; others wait. -/
theorem one (i m : Nat) {o : Oper} {fuel : Nat} {listed : Array Bool} {a : Act} {w : World} (ho : ops[i]? = some o) (hr : Region.ready md ops listed = [i])
    (h : ∀ K' : Act → World → Prop, Shut (∀ a w, S w → (S w → wpE P md ops Q S fuel (listed.setIfInBounds i true) a w) → K' a w) → if Region.wanted o (yielded ops a.tmps) = true then Oper.wp P o a w K' Q else K' (a.put o.dst undef) w) : wpE P md ops Q S (fuel + 1) listed a w :=
  ⟨fun h0 => (by rw [hr] at h0; cases h0), fun j hj => by
    rw [hr] at hj
    obtain rfl := List.mem_singleton.1 hj
    exact wpOp_step ho (fun K' hK => h K' (fun a w hS hW => hK a w ⟨fun _ => hS, hW hS⟩))⟩
/-- Two may come up. -/
theorem two (i j : Nat) {o p : Oper} {fuel : Nat} {listed : Array Bool} {a : Act} {w : World} (ho : ops[i]? = some o) (hp : ops[j]? = some p) (hr : Region.ready md ops listed = [i, j])
    (h : ∀ K' : Act → World → Prop, Shut (∀ a w, S w → (S w → wpE P md ops Q S fuel (listed.setIfInBounds i true) a w) → K' a w) → if Region.wanted o (yielded ops a.tmps) = true then Oper.wp P o a w K' Q else K' (a.put o.dst undef) w)
    (k : ∀ K' : Act → World → Prop, Shut (∀ a w, S w → (S w → wpE P md ops Q S fuel (listed.setIfInBounds j true) a w) → K' a w) → if Region.wanted p (yielded ops a.tmps) = true then Oper.wp P p a w K' Q else K' (a.put p.dst undef) w) : wpE P md ops Q S (fuel + 1) listed a w :=
  ⟨fun h0 => (by rw [hr] at h0; cases h0), fun m hm => by
    rw [hr] at hm
    rcases List.mem_cons.1 hm with rfl | hm
    · exact wpOp_step ho (fun K' hK => h K' (fun a w hS hW => hK a w ⟨fun _ => hS, hW hS⟩))
    · obtain rfl := List.mem_singleton.1 hm
      exact wpOp_step hp (fun K' hK => k K' (fun a w hS hW => hK a w ⟨fun _ => hS, hW hS⟩))⟩
/-- The last one: S need not hold behind it. -/
theorem last (i : Nat) {o : Oper} {fuel : Nat} {listed : Array Bool} {a : Act} {w : World} (ho : ops[i]? = some o) (hr : Region.ready md ops listed = [i]) (hl : (List.range ops.size).all (fun m => (listed.setIfInBounds i true).getD m true) = true)
    (hr2 : Region.ready md ops (listed.setIfInBounds i true) = [])
    (h : ∀ K' : Act → World → Prop, Shut (∀ a w, Q .normal a w → K' a w) → if Region.wanted o (yielded ops a.tmps) = true then Oper.wp P o a w K' Q else K' (a.put o.dst undef) w) : wpE P md ops Q S (fuel + 1) listed a w :=
  ⟨fun h0 => (by rw [hr] at h0; cases h0), fun j hj => by
    rw [hr] at hj
    obtain rfl := List.mem_singleton.1 hj
    refine wpOp_step ho (fun K' hK => h K' (fun a w hq => hK a w ⟨fun ⟨m, hm, hf⟩ => ?_, ?_⟩))
    · have := List.all_eq_true.1 hl m (List.mem_range.2 hm)
      rw [this] at hf
      cases hf
    · cases fuel with
      | zero => exact ⟨hr2, hq⟩
      | succ n => exact ⟨fun _ => hq, by rw [hr2]; intro j hj; cases hj⟩⟩
/-- The beginning. -/
theorem start (S : World → Prop) {id : Nat} {a : Act} {w : World} (hm : P.follows .mixedOrders = true) (hS : S w.drew)
    (h : S w.drew → wpE P .any ops Q S ops.size (Array.replicate ops.size false) a w.drew) : (Code.region id ops true).wp P Q a w :=
  wp_region_any hm (wpE_any _ _ _ _ (h hS))
end
section
variable {P : Program} {ops : Array Oper} {Q : Exit → Act → World → Prop} {md : Region.Mode} {S : World → Prop}
/-- As 'take'; all that is only reckoning is done by the way. -/
theorem tk (i m : Nat) {oi : Oper} {v : Value} {fuel : Nat} {listed : Array Bool} {a a' : Act} {w : World} (hS : S w) (h : wpE P md ops Q S fuel (listed.setIfInBounds i true) a' w)
    (hi : ops[i]? = some oi := by simp only [List.getElem?_toArray, List.getElem?_cons_succ, List.getElem?_cons_zero]; exact rfl)
    (hd : (dependsB md ops i m && (listed.getD m true == false) && Region.noSelect ops && Region.free md ops listed i && (Region.ready md ops listed).contains i) = true := by kernel_rfl)
    (hQ : ∀ c a w, Q (.panic c) (a.put oi.dst v) w → Q (.panic c) a w := by exact fun _ _ _ h => h) (hw : Region.wanted oi (yielded ops a.tmps) = true := by rfl)
    (hy : ∀ w, S w → (execOp a.eval oi).run P w = .ok (.value v) w := by intro w hSw; (try dsimp only at hSw); go_simp; try with_reducible rfl)
    (ha : a.put oi.dst v = a' := by first | (simp only [Act.put, List.setIfInBounds_toArray, List.set_cons_zero, List.set_cons_succ]; exact rfl) | exact rfl) : wpE P md ops Q S (fuel + 1) listed a w := by
  subst ha; exact take i m hi hd hQ hS hw hy h
/-- As 'skip'. -/
theorem sk (i m : Nat) {oi : Oper} {fuel : Nat} {listed : Array Bool} {a a' : Act} {w : World} (hS : S w) (h : wpE P md ops Q S fuel (listed.setIfInBounds i true) a' w)
    (hi : ops[i]? = some oi := by simp only [List.getElem?_toArray, List.getElem?_cons_succ, List.getElem?_cons_zero]; exact rfl)
    (hd : (dependsB md ops i m && (listed.getD m true == false) && Region.noSelect ops && Region.free md ops listed i && (Region.ready md ops listed).contains i) = true := by kernel_rfl)
    (hQ : ∀ c a w, Q (.panic c) (a.put oi.dst undef) w → Q (.panic c) a w := by exact fun _ _ _ h => h) (hw : Region.wanted oi (yielded ops a.tmps) = false := by rfl)
    (ha : a.put oi.dst undef = a' := by first | (simp only [Act.put, List.setIfInBounds_toArray, List.set_cons_zero, List.set_cons_succ]; exact rfl) | exact rfl) : wpE P md ops Q S (fuel + 1) listed a w := by
  subst ha; exact skip i m hi hd hQ hS hw h
/-- As 'one'. -/
theorem on (i : Nat) {o : Oper} {fuel : Nat} {listed : Array Bool} {a : Act} {w : World}
    (h : ∀ K' : Act → World → Prop, Shut (∀ a w, S w → (S w → wpE P md ops Q S fuel (listed.setIfInBounds i true) a w) → K' a w) → if Region.wanted o (yielded ops a.tmps) = true then Oper.wp P o a w K' Q else K' (a.put o.dst undef) w)
    (ho : ops[i]? = some o := by simp only [List.getElem?_toArray, List.getElem?_cons_succ, List.getElem?_cons_zero]; exact rfl) (hr : Region.ready md ops listed = [i] := by kernel_rfl) : wpE P md ops Q S (fuel + 1) listed a w :=
  one i i ho hr h
/-- As 'last'. -/
theorem la (i : Nat) {o : Oper} {fuel : Nat} {listed : Array Bool} {a : Act} {w : World}
    (h : ∀ K' : Act → World → Prop, Shut (∀ a w, Q .normal a w → K' a w) → if Region.wanted o (yielded ops a.tmps) = true then Oper.wp P o a w K' Q else K' (a.put o.dst undef) w)
    (ho : ops[i]? = some o := by simp only [List.getElem?_toArray, List.getElem?_cons_succ, List.getElem?_cons_zero]; exact rfl) (hr : Region.ready md ops listed = [i] := by kernel_rfl) (hl : (List.range ops.size).all (fun m => (listed.setIfInBounds i true).getD m true) = true := by kernel_rfl)
    (hr2 : Region.ready md ops (listed.setIfInBounds i true) = [] := by kernel_rfl) : wpE P md ops Q S (fuel + 1) listed a w :=
  last i ho hr hl hr2 h
end
end Hd
namespace Bs
open Sm
abbrev Bytes : Type := List UInt8
/-- One value; the world stays. -/
def Done (x : Value) (w : World) (e : Ending) (w' : World) : Prop := e = .returned x ∧ w = w'
/-- A value; new blocks alone. -/
def Back (v : Value) (w : World) (e : Ending) (w' : World) : Prop := e = .returned v ∧ Below w.heap.size w w'
/-- Block k holds these cells. -/
def Blk (T k : Nat) (cs : Array Value) (w : World) : Prop := w.heap[k]? = some (.cells cs T (0, 0))
section
variable {T k : Nat} {cs : Array Value} {w w' : World}
theorem Blk.c (h : Blk T k cs w) (i : Nat) (u : Value) (hu : cs[i]? = some u) : w.cell? ⟨k, i, none⟩ = some u := by
  have := cell_of_row w k i cs T (0, 0) h
  rw [this]; exact hu
theorem Blk.fz (h : Blk T k cs w) (i : Nat) : w.frozen? ⟨k, i, none⟩ = false := by unfold Blk at h; simp [World.frozen?, h]
theorem Blk.lt (h : Blk T k cs w) : k < w.heap.size := by
  rcases Nat.lt_or_ge k w.heap.size with hlt | hge
  · exact hlt
  · unfold Blk at h; rw [Array.getElem?_eq_none hge] at h; cases h
theorem Blk.drewN (h : Blk T k cs w) (m : Nat) : Blk T k cs (w.drewN m) := h
theorem Blk.below {B : Nat} (h : Blk T k cs w) (hb : Below B w w') (hB : k < B) : Blk T k cs w' := (hb.block k hB).trans h
theorem Blk.alloc (h : Blk T k cs w) (o : Obj) : Blk T k cs (w.alloc o) := (Below.heap_alloc w o k h.lt).trans h
theorem Blk.far (h : Blk T k cs w) {p : Addr} (hp : k ≠ p.block) (u : Value) : Blk T k cs (w.setCell p u) := (Below.heap_setCell w p u k hp).trans h
theorem Blk.made (w : World) : Blk T w.heap.size cs (w.alloc (.cells cs T)) := Go.Deep.blk_alloc_new w _
theorem Blk.set_ (h : Blk T k cs w) (i : Nat) (u : Value) (cs' : Array Value) (hc : cs.setIfInBounds i u = cs') : Blk T k cs' (w.setCell ⟨k, i, none⟩ u) := by
  unfold Blk at h ⊢
  simp [World.setCell, Array.getElem?_modify, h, hc]
end
theorem own_mono {w : World} {base base' e size n : Nat} {v : Value} {xs : List Value} (h : w.ownsRow base e size v n xs) (hb : base' ≤ base) : w.ownsRow base' e size v n xs := by
  obtain ⟨h1, h2⟩ := h
  refine ⟨h1, ?_⟩
  rcases h2 with hn | ⟨g, cap, cur, rfl, hbg, rest⟩
  · exact .inl hn
  · exact .inr ⟨g, cap, cur, rfl, Nat.le_trans hb hbg, rest⟩
theorem own_below {w w' : World} {base e size n : Nat} {v : Value} {xs : List Value} (h : w.ownsRow base e size v n xs) (hb : Below w.heap.size w w') : w'.ownsRow base e size v n xs := by
  obtain ⟨h1, h2⟩ := h
  refine ⟨h1, ?_⟩
  rcases h2 with hn | ⟨g, cap, cur, rfl, hbg, hg, rest⟩
  · exact .inl hn
  · exact .inr ⟨g, cap, cur, rfl, hbg, (hb.block g (Array.getElem?_eq_some_iff.1 hg).1).trans hg, rest⟩
abbrev ST : Nat := 9
def strV (b : Bytes) : Value := .string ⟨b.toArray⟩
theorem own_form {w : World} {B e size n : Nat} {v : Value} {xs : List Value} (h : w.ownsRow B e size v n xs) (hn : 0 < n) : ∃ gg c, v = .slice (some ⟨gg, 0, none⟩) n c := by
  rcases h.2 with ⟨rfl, rfl⟩ | ⟨gg, c, cur, rfl, _⟩
  · omega
  · exact ⟨_, _, rfl⟩
/-- A row's slice: nothing, or a block's. -/
theorem own_slice {w : World} {B e size n : Nat} {v : Value} {xs : List Value} (h : w.ownsRow B e size v n xs) : ∃ ao c, v = .slice ao n c ∧ (0 < n → ∃ gg, ao = some ⟨gg, 0, none⟩ ∧ B ≤ gg ∧ gg < w.heap.size ∧ n ≤ c ∧ c ≤ maxLen) := by
  have hlt := h.lt
  rcases h.2 with ⟨rfl, rfl⟩ | ⟨gg, c, cur, rfl, h1, h2, h3, h4, _⟩
  · exact ⟨none, 0, rfl, fun h => absurd h (by omega)⟩
  · exact ⟨_, _, rfl, fun _ => ⟨gg, rfl, h1, (hlt gg rfl).2, h3, h4⟩⟩
theorem strs_at {w : World} {B n c gg : Nat} {l : List Bytes} (h : w.ownsRow B ST 1 (.slice (some ⟨gg, 0, none⟩) n c) l.length (l.map strV)) (i : Nat) (b : Bytes) (hb : l[i]? = some b) : w.cell? ⟨gg, i, none⟩ = some (.string ⟨b.toArray⟩) := by
  have := World.ownsRow.cells h (g := gg) rfl i (strV b) (by rw [List.getElem?_map, hb]; rfl)
  have e : (⟨gg, 0, none⟩ : Addr).add i = ⟨gg, i, none⟩ := by unfold Addr.add; split <;> simp_all
  rw [e] at this
  exact this
section
variable {w w' : World} {B e size n B' e' size' n' T k : Nat} {v v' : Value} {xs xs' : List Value} {cs : Array Value}
theorem own_ne_blk (h : w.ownsRow B e size v n xs) (hk : Blk T k cs w) (hne : e ≠ T) : v.ownBlock ≠ some k := by
  rcases h.2 with ⟨rfl, _⟩ | ⟨gg, c, cur, rfl, _, h2, _⟩
  · intro h; cases h
  · intro h
    have h : some gg = some k := h
    cases h
    unfold Blk at hk
    rw [hk] at h2
    cases h2
    exact hne rfl
theorem own_ne (h : w.ownsRow B e size v n xs) (h' : w.ownsRow B' e' size' v' n' xs') (hne : e ≠ e') : v.ownBlock = none ∨ v.ownBlock ≠ v'.ownBlock := by
  rcases h'.2 with ⟨rfl, _⟩ | ⟨gg, c, cur, rfl, _, h2, _⟩
  · cases hv : v.ownBlock with
    | none => exact .inl rfl
    | some x => exact .inr (by intro h; cases h)
  · exact .inr (own_ne_blk h (T := e') (cs := cur) h2 hne)
theorem own_grown (h : w.ownsRow B e size v n xs) (hg : w.grownBy w' v'.ownBlock) (h' : w.ownsRow B' e' size' v' n' xs') (hne : e ≠ e') : w'.ownsRow B e size v n xs := h.kept hg (own_ne h h' hne)
theorem blk_grown (hk : Blk T k cs w) (hg : w.grownBy w' v.ownBlock) (h : w.ownsRow B e size v n xs) (hne : e ≠ T) : Blk T k cs w' :=
  (hg.block k hk.lt (fun h' => own_ne_blk h hk hne h'.symm)).trans hk
theorem own_set (h : w.ownsRow B e size v n xs) (hk : Blk T k cs w) (hne : e ≠ T) (i : Nat) (u : Value) : (w.setCell ⟨k, i, none⟩ u).ownsRow B e size v n xs :=
  h.kept (row := some k) ⟨rfl, rfl, rfl, by simp [World.setCell], fun j _ hj => Below.heap_setCell _ _ _ _ (fun e => hj (by simp [e]))⟩ (.inr (own_ne_blk h hk hne))
theorem blk_set {T' k' : Nat} {cs' : Array Value} (hk : Blk T k cs w) (hk' : Blk T' k' cs' w) (hne : T ≠ T') (i : Nat) (u : Value) : Blk T k cs (w.setCell ⟨k', i, none⟩ u) :=
  hk.far (p := ⟨k', i, none⟩) (by show k ≠ k'; rintro rfl; unfold Blk at hk hk'; rw [hk] at hk'; cases hk'; exact hne rfl) u
end
theorem own_len {w : World} {B e size n m c : Nat} {o : Option Addr} {xs : List Value} (h : w.ownsRow B e size (.slice o n c) m xs) : n = m ∧ (0 < m → ∃ gg, o = some ⟨gg, 0, none⟩ ∧ B ≤ gg ∧ gg < w.heap.size ∧ m ≤ c ∧ c ≤ maxLen) := by
  obtain ⟨ao, c', hx, hxo⟩ := own_slice h
  cases hx
  exact ⟨rfl, hxo⟩
theorem alloc_bel (w : World) (o : Obj) : Below w.heap.size w (w.alloc o) := (Below.refl _ _).alloc (Nat.le_refl _) _
theorem bcell {W w1 : World} (hb : Below W.heap.size W w1) : (∀ b o, b < W.heap.size → w1.cell? ⟨b, o, none⟩ = W.cell? ⟨b, o, none⟩) ∧ (∀ b o, b < W.heap.size → w1.frozen? ⟨b, o, none⟩ = W.frozen? ⟨b, o, none⟩) :=
  ⟨fun b o h => hb.cell (p := ⟨b, o, none⟩) h, fun b o h => hb.frozen (p := ⟨b, o, none⟩) h⟩
end Bs
end Go.Proofs.Ytojblndlchcjeaa
