/- A region that draws its order, by a condition that is wanted up to one operation only (wip/gen/gen_pahf.py prints this out of Bs). -/
import Derived.Test.YtbdgoimbddlcoaaGreatDoorPaWg
set_option linter.unusedVariables false
namespace Go.Proofs.YtbdgoimbddlcoaaGreatDoor
open Go.RowKit
namespace Hf
section
variable {P : Program} {ops : Array Oper} {Q : Exit → Act → World → Prop} {md : Region.Mode} {S : World → Prop} {M : Nat}
/-- In whatever order: behind each operation S holds, as long as number M waits. -/
def wpF (P : Program) (md : Region.Mode) (ops : Array Oper) (Q : Exit → Act → World → Prop) (S : World → Prop) (M : Nat) : Nat → Array Bool → Act → World → Prop
 | 0, listed, a, w => Region.ready md ops listed = [] ∧ Q .normal a w
 | fuel + 1, listed, a, w => (Region.ready md ops listed = [] → Q .normal a w) ∧
   ∀ j ∈ Region.ready md ops listed, wpOp P ops Q j (fun a' w' => ((listed.setIfInBounds j true).getD M true = false → S w') ∧ wpF P md ops Q S M fuel (listed.setIfInBounds j true) a' w') a w
theorem wpF_any : ∀ (fuel : Nat) (listed : Array Bool) (a : Act) (w : World), wpF P md ops Q S M fuel listed a w → wpAny P md ops Q fuel listed a w
 | 0, _, _, _, h => h
 | fuel + 1, _, _, _, h => ⟨h.1, fun j hj => wpOp_mono (fun a' w' k => wpF_any fuel _ a' w' k.2) (h.2 j hj)⟩
/-- An operation whose value another one waits for may be taken first, if it yields its value in every world that meets S. -/
theorem wpF_first {i m : Nat} {oi om : Oper} {v : Value} (hi : ops[i]? = some oi) (hm : ops[m]? = some om) (hdep : ∃ e ∈ om.after, Region.binds md e = true ∧ e.on = i)
  (hdM : M = m ∨ ∃ oM, ops[M]? = some oM ∧ ∃ e ∈ oM.after, Region.binds md e = true ∧ e.on = m) (hsel : ∀ (j : Nat) (o : Oper) cs b, ops[j]? = some o → o.op ≠ .select cs b) (hQ : ∀ c a w, Q (.panic c) (a.put oi.dst v) w → Q (.panic c) a w) :
  ∀ (fuel : Nat) (listed : Array Bool) (a : Act) (w : World),
   (∀ j oj, ops[j]? = some oj → j ≠ i → listed.getD j true = false → (∀ e ∈ oj.after, Region.binds md e = true → e.on ≠ i) → oi.apart ops oj = true) →
   i ∈ Region.ready md ops listed → listed.getD m true = false → listed.getD M true = false → YieldsIf P ops S oi v a → S w →
   wpF P md ops Q S M fuel (listed.setIfInBounds i true) (a.put oi.dst v) w → wpF P md ops Q S M (fuel + 1) listed a w := by
 intro fuel
 induction fuel with
 | zero =>
  intro listed a w _ hr _ _ hy hS H
  refine ⟨fun h => (by rw [h] at hr; cases hr), fun j hj => ?_⟩
  by_cases hji : j = i
  · subst hji; exact hy.wpOp hi hS ⟨fun _ => hS, H⟩
  · have h0 := ready_mono hj hji
    rw [H.1] at h0
    cases h0
 | succ fuel ih =>
  intro listed a w hfree hr hun hunM hy hS H
  have hil : listed.getD i true = false := (mem_ready.1 hr).1
  have hif : listed.getD i false = false := by
   rcases Nat.lt_or_ge i listed.size with h' | h'
   · simp [h'] at hil ⊢; exact hil
   · simp [Array.getElem?_eq_none h'] at hil
  have hmr : ∀ j, j ∈ Region.ready md ops listed → m ≠ j := by
   intro j hj hmj
   subst hmj
   obtain ⟨_, o, ho, hall⟩ := mem_ready.1 hj
   rw [hm] at ho
   cases ho
   obtain ⟨e, he, hb, heq⟩ := hdep
   have := hall e he hb
   rw [heq, hif] at this
   cases this
  have hmi : m ≠ i := hmr i hr
  have hmf : listed.getD m false = false := by
   rcases Nat.lt_or_ge m listed.size with h' | h'
   · simp [h'] at hun ⊢; exact hun
   · simp [Array.getElem?_eq_none h'] at hun
  have hMr : ∀ j, j ∈ Region.ready md ops listed → M ≠ j := by
   intro j hj hMj
   rcases hdM with h | ⟨oM, hoM, e, he, hb, heq⟩
   · exact hmr j hj (h.symm.trans hMj)
   · subst hMj
     obtain ⟨_, o, ho, hall⟩ := mem_ready.1 hj
     rw [hoM] at ho
     cases ho
     have := hall e he hb
     rw [heq, hmf] at this
     cases this
  have hMi : M ≠ i := hMr i hr
  refine ⟨fun h => (by rw [h] at hr; cases hr), fun j hj => ?_⟩
  by_cases hji : j = i
  · subst hji; exact hy.wpOp hi hS ⟨fun _ => hS, H⟩
  · have h1 := H.2 j (ready_mono hj hji)
    obtain ⟨hjun, oj, hoj, hall⟩ := mem_ready.1 hj
    have hnot : ∀ e ∈ oj.after, Region.binds md e = true → e.on ≠ i := fun e he hb heq => by
     have h2 := hall e he hb
     rw [heq, hif] at h2
     cases h2
    have h2 := wpOp_putIf hoj (hfree j oj hoj hji hjun hnot) (fun cs b => hsel i oi cs b hi) (fun cs b => hsel j oj cs b hoj) hQ hy h1
    have hmj : m ≠ j := hmr j hj
    have hw1 : (listed.setIfInBounds j true).getD m true = false := by rw [getD_set_ne true (Ne.symm hmj)]; exact hun
    have hMj : M ≠ j := hMr j hj
    have hw3 : (listed.setIfInBounds j true).getD M true = false := by rw [getD_set_ne true (Ne.symm hMj)]; exact hunM
    have hw2 : ((listed.setIfInBounds i true).setIfInBounds j true).getD M true = false := by rw [getD_set_ne true (Ne.symm hMj), getD_set_ne true (Ne.symm hMi)]; exact hunM
    have hfree' : ∀ k ok, ops[k]? = some ok → k ≠ i → (listed.setIfInBounds j true).getD k true = false →
      (∀ e ∈ ok.after, Region.binds md e = true → e.on ≠ i) → oi.apart ops ok = true := fun k ok hk hki hu hno => by
     refine hfree k ok hk hki ?_ hno
     by_cases hjk : j = k
     · subst hjk; exact hjun
     · rw [getD_set_ne true hjk] at hu; exact hu
    refine wpOp_mono (fun a' w' h3 => ⟨fun _ => h3.2.1 hw2, ih (listed.setIfInBounds j true) a' w' hfree' (ready_mono hr (Ne.symm hji)) hw1 hw3 h3.1 (h3.2.1 hw2) ?_⟩) h2
    rw [Array.setIfInBounds_comm _ _ hji]
    exact h3.2.2
/-- Take number i first (number m waits for it). -/
theorem take (i m : Nat) {oi : Oper} {v : Value} {fuel : Nat} {listed : Array Bool} {a : Act} {w : World} (hi : ops[i]? = some oi)
  (hd : (Hd.dependsB md ops i m && (listed.getD m true == false) && Region.noSelect ops && Region.free md ops listed i && (Region.ready md ops listed).contains i && (M == m || Hd.dependsB md ops m M) && (listed.getD M true == false)) = true)
  (hQ : ∀ c a w, Q (.panic c) (a.put oi.dst v) w → Q (.panic c) a w) (hS : S w) (hw : Region.wanted oi (yielded ops a.tmps) = true) (hy : ∀ w, S w → (execOp a.eval oi).run P w = .ok (.value v) w)
  (h : wpF P md ops Q S M fuel (listed.setIfInBounds i true) (a.put oi.dst v) w) : wpF P md ops Q S M (fuel + 1) listed a w := by
 simp only [Bool.and_eq_true] at hd
 obtain ⟨⟨⟨⟨⟨⟨h1, h2⟩, h3⟩, h4⟩, h5⟩, h6⟩, h7⟩ := hd
 obtain ⟨om, hom, hdep⟩ := Hd.depends_spec h1
 have hdM : M = m ∨ ∃ oM, ops[M]? = some oM ∧ ∃ e ∈ oM.after, Region.binds md e = true ∧ e.on = m := by
  rw [Bool.or_eq_true] at h6
  rcases h6 with h6 | h6
  · exact .inl (by simpa using h6)
  · exact .inr (Hd.depends_spec h6)
 exact wpF_first hi hom hdep hdM (Region.noSelect_spec h3) hQ fuel listed a w (Region.free_spec hi h4) (by simpa using h5) (by simpa using h2) (by simpa using h7) (.inl ⟨hw, hy⟩) hS h
/-- An operation whose value another one waits for may be taken first, if it yields its value in every world. -/
theorem wpF_firstV {i m : Nat} {oi om : Oper} {v : Value} (hi : ops[i]? = some oi) (hm : ops[m]? = some om) (hdep : ∃ e ∈ om.after, Region.binds md e = true ∧ e.on = i)
  (hMi : M ≠ i) (hsel : ∀ (j : Nat) (o : Oper) cs b, ops[j]? = some o → o.op ≠ .select cs b) (hQ : ∀ c a w, Q (.panic c) (a.put oi.dst v) w → Q (.panic c) a w) :
  ∀ (fuel : Nat) (listed : Array Bool) (a : Act) (w : World),
   (∀ j oj, ops[j]? = some oj → j ≠ i → listed.getD j true = false → (∀ e ∈ oj.after, Region.binds md e = true → e.on ≠ i) → oi.apart ops oj = true) →
   i ∈ Region.ready md ops listed → listed.getD m true = false → YieldsIf P ops (fun _ => True) oi v a → (listed.getD M true = false → S w) →
   wpF P md ops Q S M fuel (listed.setIfInBounds i true) (a.put oi.dst v) w → wpF P md ops Q S M (fuel + 1) listed a w := by
 intro fuel
 induction fuel with
 | zero =>
  intro listed a w _ hr _ hy hS H
  refine ⟨fun h => (by rw [h] at hr; cases hr), fun j hj => ?_⟩
  by_cases hji : j = i
  · subst hji; exact hy.wpOp hi trivial ⟨fun hf => hS (by rwa [getD_set_ne true (Ne.symm hMi)] at hf), H⟩
  · have h0 := ready_mono hj hji
    rw [H.1] at h0
    cases h0
 | succ fuel ih =>
  intro listed a w hfree hr hun hy hS H
  have hil : listed.getD i true = false := (mem_ready.1 hr).1
  have hif : listed.getD i false = false := by
   rcases Nat.lt_or_ge i listed.size with h' | h'
   · simp [h'] at hil ⊢; exact hil
   · simp [Array.getElem?_eq_none h'] at hil
  have hmr : ∀ j, j ∈ Region.ready md ops listed → m ≠ j := by
   intro j hj hmj
   subst hmj
   obtain ⟨_, o, ho, hall⟩ := mem_ready.1 hj
   rw [hm] at ho
   cases ho
   obtain ⟨e, he, hb, heq⟩ := hdep
   have := hall e he hb
   rw [heq, hif] at this
   cases this
  have hmi : m ≠ i := hmr i hr
  refine ⟨fun h => (by rw [h] at hr; cases hr), fun j hj => ?_⟩
  by_cases hji : j = i
  · subst hji; exact hy.wpOp hi trivial ⟨fun hf => hS (by rwa [getD_set_ne true (Ne.symm hMi)] at hf), H⟩
  · have h1 := H.2 j (ready_mono hj hji)
    obtain ⟨hjun, oj, hoj, hall⟩ := mem_ready.1 hj
    have hnot : ∀ e ∈ oj.after, Region.binds md e = true → e.on ≠ i := fun e he hb heq => by
     have h2 := hall e he hb
     rw [heq, hif] at h2
     cases h2
    have h2 := wpOp_putIf hoj (hfree j oj hoj hji hjun hnot) (fun cs b => hsel i oi cs b hi) (fun cs b => hsel j oj cs b hoj) hQ hy h1
    have hmj : m ≠ j := hmr j hj
    have hw1 : (listed.setIfInBounds j true).getD m true = false := by rw [getD_set_ne true (Ne.symm hmj)]; exact hun
    have hfree' : ∀ k ok, ops[k]? = some ok → k ≠ i → (listed.setIfInBounds j true).getD k true = false →
      (∀ e ∈ ok.after, Region.binds md e = true → e.on ≠ i) → oi.apart ops ok = true := fun k ok hk hki hu hno => by
     refine hfree k ok hk hki ?_ hno
     by_cases hjk : j = k
     · subst hjk; exact hjun
     · rw [getD_set_ne true hjk] at hu; exact hu
    have hS2 : ∀ w' : World, (((listed.setIfInBounds i true).setIfInBounds j true).getD M true = false → S w') → (listed.setIfInBounds j true).getD M true = false → S w' := fun w' h hf => h (by
     rw [← Array.setIfInBounds_comm _ _ hji, getD_set_ne true (Ne.symm hMi)]; exact hf)
    refine wpOp_mono (fun a' w' h3 => ⟨hS2 w' h3.2.1, ih (listed.setIfInBounds j true) a' w' hfree' (ready_mono hr (Ne.symm hji)) hw1 h3.1 (hS2 w' h3.2.1) ?_⟩) h2
    rw [Array.setIfInBounds_comm _ _ hji]
    exact h3.2.2
/-- Take number i first (number m waits for it); it reads no memory. -/
theorem takeV (i m : Nat) {oi : Oper} {v : Value} {fuel : Nat} {listed : Array Bool} {a : Act} {w : World} (hi : ops[i]? = some oi)
  (hd : (Hd.dependsB md ops i m && (listed.getD m true == false) && Region.noSelect ops && Region.free md ops listed i && (Region.ready md ops listed).contains i && (M != i)) = true)
  (hQ : ∀ c a w, Q (.panic c) (a.put oi.dst v) w → Q (.panic c) a w) (hlM : listed.getD M true = true) (hw : Region.wanted oi (yielded ops a.tmps) = true) (hy : ∀ w, (execOp a.eval oi).run P w = .ok (.value v) w)
  (h : wpF P md ops Q S M fuel (listed.setIfInBounds i true) (a.put oi.dst v) w) : wpF P md ops Q S M (fuel + 1) listed a w := by
 simp only [Bool.and_eq_true] at hd
 obtain ⟨⟨⟨⟨⟨h1, h2⟩, h3⟩, h4⟩, h5⟩, h6⟩ := hd
 obtain ⟨om, hom, hdep⟩ := Hd.depends_spec h1
 exact wpF_firstV hi hom hdep (by simpa using h6) (Region.noSelect_spec h3) hQ fuel listed a w (Region.free_spec hi h4) (by simpa using h5) (by simpa using h2) (.inl ⟨hw, fun w _ => hy w⟩) (fun hf => (by rw [hlM] at hf; cases hf)) h
/-- The only one that may come up; others wait. -/
theorem one (i m : Nat) {o : Oper} {fuel : Nat} {listed : Array Bool} {a : Act} {w : World} (ho : ops[i]? = some o) (hr : Region.ready md ops listed = [i])
  (h : ∀ K' : Act → World → Prop, Shut (∀ a w, S w → (S w → wpF P md ops Q S M fuel (listed.setIfInBounds i true) a w) → K' a w) → if Region.wanted o (yielded ops a.tmps) = true then Oper.wp P o a w K' Q else K' (a.put o.dst undef) w) : wpF P md ops Q S M (fuel + 1) listed a w :=
 ⟨fun h0 => (by rw [hr] at h0; cases h0), fun j hj => by
  rw [hr] at hj
  obtain rfl := List.mem_singleton.1 hj
  exact wpOp_step ho (fun K' hK => h K' (fun a w hS hW => hK a w ⟨fun _ => hS, hW hS⟩))⟩
/-- Two may come up. -/
theorem two (i j : Nat) {o p : Oper} {fuel : Nat} {listed : Array Bool} {a : Act} {w : World} (ho : ops[i]? = some o) (hp : ops[j]? = some p) (hr : Region.ready md ops listed = [i, j])
  (h : ∀ K' : Act → World → Prop, Shut (∀ a w, S w → (S w → wpF P md ops Q S M fuel (listed.setIfInBounds i true) a w) → K' a w) → if Region.wanted o (yielded ops a.tmps) = true then Oper.wp P o a w K' Q else K' (a.put o.dst undef) w)
  (k : ∀ K' : Act → World → Prop, Shut (∀ a w, S w → (S w → wpF P md ops Q S M fuel (listed.setIfInBounds j true) a w) → K' a w) → if Region.wanted p (yielded ops a.tmps) = true then Oper.wp P p a w K' Q else K' (a.put p.dst undef) w) : wpF P md ops Q S M (fuel + 1) listed a w :=
 ⟨fun h0 => (by rw [hr] at h0; cases h0), fun m hm => by
  rw [hr] at hm
  rcases List.mem_cons.1 hm with rfl | hm
  · exact wpOp_step ho (fun K' hK => h K' (fun a w hS hW => hK a w ⟨fun _ => hS, hW hS⟩))
  · obtain rfl := List.mem_singleton.1 hm
    exact wpOp_step hp (fun K' hK => k K' (fun a w hS hW => hK a w ⟨fun _ => hS, hW hS⟩))⟩
/-- The only one that may come up; others wait; M is behind. -/
theorem oneM (i m : Nat) {o : Oper} {fuel : Nat} {listed : Array Bool} {a : Act} {w : World} (ho : ops[i]? = some o) (hr : Region.ready md ops listed = [i])
  (hlM : (listed.setIfInBounds i true).getD M true = true)
  (h : ∀ K' : Act → World → Prop, Shut (∀ a w, wpF P md ops Q S M fuel (listed.setIfInBounds i true) a w → K' a w) → if Region.wanted o (yielded ops a.tmps) = true then Oper.wp P o a w K' Q else K' (a.put o.dst undef) w) : wpF P md ops Q S M (fuel + 1) listed a w :=
 ⟨fun h0 => (by rw [hr] at h0; cases h0), fun j hj => by
  rw [hr] at hj
  obtain rfl := List.mem_singleton.1 hj
  exact wpOp_step ho (fun K' hK => h K' (fun a w hW => hK a w ⟨fun hf => (by rw [hlM] at hf; cases hf), hW⟩))⟩
/-- Two may come up; M is behind. -/
theorem twoM (i j : Nat) {o p : Oper} {fuel : Nat} {listed : Array Bool} {a : Act} {w : World} (ho : ops[i]? = some o) (hp : ops[j]? = some p) (hr : Region.ready md ops listed = [i, j])
  (hlM : (listed.setIfInBounds i true).getD M true = true) (hlN : (listed.setIfInBounds j true).getD M true = true)
  (h : ∀ K' : Act → World → Prop, Shut (∀ a w, wpF P md ops Q S M fuel (listed.setIfInBounds i true) a w → K' a w) → if Region.wanted o (yielded ops a.tmps) = true then Oper.wp P o a w K' Q else K' (a.put o.dst undef) w)
  (k : ∀ K' : Act → World → Prop, Shut (∀ a w, wpF P md ops Q S M fuel (listed.setIfInBounds j true) a w → K' a w) → if Region.wanted p (yielded ops a.tmps) = true then Oper.wp P p a w K' Q else K' (a.put p.dst undef) w) : wpF P md ops Q S M (fuel + 1) listed a w :=
 ⟨fun h0 => (by rw [hr] at h0; cases h0), fun m hm => by
  rw [hr] at hm
  rcases List.mem_cons.1 hm with rfl | hm
  · exact wpOp_step ho (fun K' hK => h K' (fun a w hW => hK a w ⟨fun hf => (by rw [hlM] at hf; cases hf), hW⟩))
  · obtain rfl := List.mem_singleton.1 hm
    exact wpOp_step hp (fun K' hK => k K' (fun a w hW => hK a w ⟨fun hf => (by rw [hlN] at hf; cases hf), hW⟩))⟩
/-- The last one: S need not hold behind it. -/
theorem last (i : Nat) {o : Oper} {fuel : Nat} {listed : Array Bool} {a : Act} {w : World} (ho : ops[i]? = some o) (hr : Region.ready md ops listed = [i])
  (hr2 : Region.ready md ops (listed.setIfInBounds i true) = []) (hlM : (listed.setIfInBounds i true).getD M true = true)
  (h : ∀ K' : Act → World → Prop, Shut (∀ a w, Q .normal a w → K' a w) → if Region.wanted o (yielded ops a.tmps) = true then Oper.wp P o a w K' Q else K' (a.put o.dst undef) w) : wpF P md ops Q S M (fuel + 1) listed a w :=
 ⟨fun h0 => (by rw [hr] at h0; cases h0), fun j hj => by
  rw [hr] at hj
  obtain rfl := List.mem_singleton.1 hj
  refine wpOp_step ho (fun K' hK => h K' (fun a w hq => hK a w ⟨fun hf => ?_, ?_⟩))
  · rw [hlM] at hf
    cases hf
  · cases fuel with
    | zero => exact ⟨hr2, hq⟩
    | succ n => exact ⟨fun _ => hq, by rw [hr2]; intro j hj; cases hj⟩⟩
/-- The beginning. -/
theorem start (S : World → Prop) (M : Nat) {id : Nat} {a : Act} {w : World} (hm : P.follows .mixedOrders = true) (hS : S w.drew)
  (h : S w.drew → wpF P .any ops Q S M ops.size (Array.replicate ops.size false) a w.drew) : (Code.region id ops true).wp P Q a w :=
 wp_region_any hm (wpF_any _ _ _ _ (h hS))
end
end Hf
theorem setCell_comm (w : World) {b c i j : Nat} (h : b ≠ c) (u v : Value) : (w.setCell ⟨b, i, none⟩ u).setCell ⟨c, j, none⟩ v = (w.setCell ⟨c, j, none⟩ v).setCell ⟨b, i, none⟩ u := by
 unfold World.setCell
 simp only
 congr 1
 apply Array.ext_getElem?
 intro k
 simp only [Array.getElem?_modify]
 by_cases h1 : c = k
 · have h2 : ¬ b = k := fun e => h (e.trans h1.symm)
   simp [h1, h2]
 · by_cases h2 : b = k <;> simp [h1, h2]
end Go.Proofs.YtbdgoimbddlcoaaGreatDoor
