/- Regions that draw their order: a condition on the world that is held up to the last operation only. · The units of chunk's reference. · The law package of chunk: Told. · The reference of chunk: Same. · ChunkJoins: plain laws. -/
import Derived.OrdersHeld
import Derived.Deep.RegionHeld3
import Derived.Test.YthdigbkcffihkaaGreatDoorCkR
set_option linter.unusedVariables false
namespace Go.Proofs.YthdigbkcffihkaaGreatDoor
namespace Hd
section
variable {P : Program} {ops : Array Oper} {Q : Exit → Act → World → Prop} {md : Region.Mode} {S : World → Prop}
/-- Some operation has not come up yet. -/
def Waits (ops : Array Oper) (listed : Array Bool) : Prop := ∃ m, m < ops.size ∧ listed.getD m true = false
/-- In whatever order: behind each operation S holds, as long as one waits. -/
def wpE (P : Program) (md : Region.Mode) (ops : Array Oper) (Q : Exit → Act → World → Prop) (S : World → Prop) : Nat → Array Bool → Act → World → Prop
  | 0, listed, a, w => Region.ready md ops listed = [] ∧ Q .normal a w
  | fuel + 1, listed, a, w => (Region.ready md ops listed = [] → Q .normal a w) ∧
      ∀ j ∈ Region.ready md ops listed, wpOp P ops Q j (fun a' w' => (Waits ops (listed.setIfInBounds j true) → S w') ∧ wpE P md ops Q S fuel (listed.setIfInBounds j true) a' w') a w
theorem wpE_any : ∀ (fuel : Nat) (listed : Array Bool) (a : Act) (w : World), wpE P md ops Q S fuel listed a w → wpAny P md ops Q fuel listed a w
  | 0, _, _, _, h => h
  | fuel + 1, _, _, _, h => ⟨h.1, fun j hj => wpOp_mono (fun a' w' k => wpE_any fuel _ a' w' k.2) (h.2 j hj)⟩
/-- An operation whose value another one waits for may be taken first, if it yields its value in every world that meets S. -/
theorem wpE_first {i m : Nat} {oi om : Oper} {v : Value} (hi : ops[i]? = some oi) (hm : ops[m]? = some om) (hdep : ∃ e ∈ om.after, Region.binds md e = true ∧ e.on = i)
    (hsel : ∀ (j : Nat) (o : Oper) cs b, ops[j]? = some o → o.op ≠ .select cs b) (hQ : ∀ c a w, Q (.panic c) (a.put oi.dst v) w → Q (.panic c) a w) :
    ∀ (fuel : Nat) (listed : Array Bool) (a : Act) (w : World),
      (∀ j oj, ops[j]? = some oj → j ≠ i → listed.getD j true = false → (∀ e ∈ oj.after, Region.binds md e = true → e.on ≠ i) → oi.apart ops oj = true) →
      i ∈ Region.ready md ops listed → listed.getD m true = false → YieldsIf P ops S oi v a → S w →
      wpE P md ops Q S fuel (listed.setIfInBounds i true) (a.put oi.dst v) w → wpE P md ops Q S (fuel + 1) listed a w := by
  intro fuel
  induction fuel with
  | zero =>
    intro listed a w _ hr _ hy hS H
    refine ⟨fun h => (by rw [h] at hr; cases hr), fun j hj => ?_⟩
    by_cases hji : j = i
    · subst hji; exact hy.wpOp hi hS ⟨fun _ => hS, H⟩
    · have h0 := ready_mono hj hji
      rw [H.1] at h0
      cases h0
  | succ fuel ih =>
    intro listed a w hfree hr hun hy hS H
    have hil : listed.getD i true = false := (mem_ready.1 hr).1
    have hif : listed.getD i false = false := by
      rcases Nat.lt_or_ge i listed.size with h' | h'
      · simp [h'] at hil ⊢; exact hil
      · simp [Array.getElem?_eq_none h'] at hil
    have hmr : ∀ j, j ∈ Region.ready md ops listed → m ≠ j := by
      intro j hj hmj
      subst hmj
      obtain ⟨_, o, ho, hall⟩ := mem_ready.1 hj
      rw [hm] at ho
      cases ho
      obtain ⟨e, he, hb, heq⟩ := hdep
      have := hall e he hb
      rw [heq, hif] at this
      cases this
    have hmi : m ≠ i := hmr i hr
    refine ⟨fun h => (by rw [h] at hr; cases hr), fun j hj => ?_⟩
    by_cases hji : j = i
    · subst hji; exact hy.wpOp hi hS ⟨fun _ => hS, H⟩
    · have h1 := H.2 j (ready_mono hj hji)
      obtain ⟨hjun, oj, hoj, hall⟩ := mem_ready.1 hj
      have hnot : ∀ e ∈ oj.after, Region.binds md e = true → e.on ≠ i := fun e he hb heq => by
        have h2 := hall e he hb
        rw [heq, hif] at h2
        cases h2
      have h2 := wpOp_putIf hoj (hfree j oj hoj hji hjun hnot) (fun cs b => hsel i oi cs b hi) (fun cs b => hsel j oj cs b hoj) hQ hy h1
      have hmj : m ≠ j := hmr j hj
      have hw1 : (listed.setIfInBounds j true).getD m true = false := by rw [getD_set_ne true (Ne.symm hmj)]; exact hun
      have hw2 : Waits ops ((listed.setIfInBounds i true).setIfInBounds j true) := ⟨m, (Array.getElem?_eq_some_iff.1 hm).1, by rw [getD_set_ne true (Ne.symm hmj), getD_set_ne true (Ne.symm hmi)]; exact hun⟩
      have hfree' : ∀ k ok, ops[k]? = some ok → k ≠ i → (listed.setIfInBounds j true).getD k true = false →
          (∀ e ∈ ok.after, Region.binds md e = true → e.on ≠ i) → oi.apart ops ok = true := fun k ok hk hki hu hno => by
        refine hfree k ok hk hki ?_ hno
        by_cases hjk : j = k
        · subst hjk; exact hjun
        · rw [getD_set_ne true hjk] at hu; exact hu
      refine wpOp_mono (fun a' w' h3 => ⟨fun _ => h3.2.1 hw2, ih (listed.setIfInBounds j true) a' w' hfree' (ready_mono hr (Ne.symm hji)) hw1 h3.1 (h3.2.1 hw2) ?_⟩) h2
      rw [Array.setIfInBounds_comm _ _ hji]
      exact h3.2.2
def dependsB (md : Region.Mode) (ops : Array Oper) (i m : Nat) : Bool := match ops[m]? with
  | some o => o.after.any fun e => Region.binds md e && e.on == i
  | none => false
theorem depends_spec {i m : Nat} (h : dependsB md ops i m = true) : ∃ om, ops[m]? = some om ∧ ∃ e ∈ om.after, Region.binds md e = true ∧ e.on = i := by
  unfold dependsB at h
  split at h
  · rename_i o ho
    obtain ⟨e, he, hb⟩ := Array.any_eq_true'.1 h
    simp only [Bool.and_eq_true, beq_iff_eq] at hb
    exact ⟨o, ho, e, he, hb.1, hb.2⟩
  · cases h
/-- Take number i first (number m waits for it). -/
theorem take (i m : Nat) {oi : Oper} {v : Value} {fuel : Nat} {listed : Array Bool} {a : Act} {w : World} (hi : ops[i]? = some oi)
    (hd : (dependsB md ops i m && (listed.getD m true == false) && Region.noSelect ops && Region.free md ops listed i && (Region.ready md ops listed).contains i) = true)
    (hQ : ∀ c a w, Q (.panic c) (a.put oi.dst v) w → Q (.panic c) a w) (hS : S w) (hw : Region.wanted oi (yielded ops a.tmps) = true) (hy : ∀ w, S w → (execOp a.eval oi).run P w = .ok (.value v) w)
    (h : wpE P md ops Q S fuel (listed.setIfInBounds i true) (a.put oi.dst v) w) : wpE P md ops Q S (fuel + 1) listed a w := by
  simp only [Bool.and_eq_true] at hd
  obtain ⟨⟨⟨⟨h1, h2⟩, h3⟩, h4⟩, h5⟩ := hd
  obtain ⟨om, hom, hdep⟩ := depends_spec h1
  exact wpE_first hi hom hdep (Region.noSelect_spec h3) hQ fuel listed a w (Region.free_spec hi h4) (by simpa using h5) (by simpa using h2) (.inl ⟨hw, hy⟩) hS h
/-- An operation that is not wanted. -/
theorem skip (i m : Nat) {oi : Oper} {fuel : Nat} {listed : Array Bool} {a : Act} {w : World} (hi : ops[i]? = some oi)
    (hd : (dependsB md ops i m && (listed.getD m true == false) && Region.noSelect ops && Region.free md ops listed i && (Region.ready md ops listed).contains i) = true)
    (hQ : ∀ c a w, Q (.panic c) (a.put oi.dst undef) w → Q (.panic c) a w) (hS : S w) (hw : Region.wanted oi (yielded ops a.tmps) = false)
    (h : wpE P md ops Q S fuel (listed.setIfInBounds i true) (a.put oi.dst undef) w) : wpE P md ops Q S (fuel + 1) listed a w := by
  simp only [Bool.and_eq_true] at hd
  obtain ⟨⟨⟨⟨h1, h2⟩, h3⟩, h4⟩, h5⟩ := hd
  obtain ⟨om, hom, hdep⟩ := depends_spec h1
  exact wpE_first hi hom hdep (Region.noSelect_spec h3) hQ fuel listed a w (Region.free_spec hi h4) (by simpa using h5) (by simpa using h2) (.inr ⟨hw, rfl⟩) hS h
/-- The only one that may come up; others wait. -/
theorem one (i m : Nat) {o : Oper} {fuel : Nat} {listed : Array Bool} {a : Act} {w : World} (ho : ops[i]? = some o) (hr : Region.ready md ops listed = [i])
    (h : ∀ K' : Act → World → Prop, Shut (∀ a w, S w → (S w → wpE P md ops Q S fuel (listed.setIfInBounds i true) a w) → K' a w) → if Region.wanted o (yielded ops a.tmps) = true then Oper.wp P o a w K' Q else K' (a.put o.dst undef) w) : wpE P md ops Q S (fuel + 1) listed a w :=
  ⟨fun h0 => (by rw [hr] at h0; cases h0), fun j hj => by
    rw [hr] at hj
    obtain rfl := List.mem_singleton.1 hj
    exact wpOp_step ho (fun K' hK => h K' (fun a w hS hW => hK a w ⟨fun _ => hS, hW hS⟩))⟩
/-- Two may come up. -/
theorem two (i j : Nat) {o p : Oper} {fuel : Nat} {listed : Array Bool} {a : Act} {w : World} (ho : ops[i]? = some o) (hp : ops[j]? = some p) (hr : Region.ready md ops listed = [i, j])
    (h : ∀ K' : Act → World → Prop, Shut (∀ a w, S w → (S w → wpE P md ops Q S fuel (listed.setIfInBounds i true) a w) → K' a w) → if Region.wanted o (yielded ops a.tmps) = true then Oper.wp P o a w K' Q else K' (a.put o.dst undef) w)
    (k : ∀ K' : Act → World → Prop, Shut (∀ a w, S w → (S w → wpE P md ops Q S fuel (listed.setIfInBounds j true) a w) → K' a w) → if Region.wanted p (yielded ops a.tmps) = true then Oper.wp P p a w K' Q else K' (a.put p.dst undef) w) : wpE P md ops Q S (fuel + 1) listed a w :=
  ⟨fun h0 => (by rw [hr] at h0; cases h0), fun m hm => by
    rw [hr] at hm
    rcases List.mem_cons.1 hm with rfl | hm
    · exact wpOp_step ho (fun K' hK => h K' (fun a w hS hW => hK a w ⟨fun _ => hS, hW hS⟩))
    · obtain rfl := List.mem_singleton.1 hm
      exact wpOp_step hp (fun K' hK => k K' (fun a w hS hW => hK a w ⟨fun _ => hS, hW hS⟩))⟩
/-- The last one: S need not hold behind it. -/
theorem last (i : Nat) {o : Oper} {fuel : Nat} {listed : Array Bool} {a : Act} {w : World} (ho : ops[i]? = some o) (hr : Region.ready md ops listed = [i]) (hl : (List.range ops.size).all (fun m => (listed.setIfInBounds i true).getD m true) = true)
    (hr2 : Region.ready md ops (listed.setIfInBounds i true) = [])
    (h : ∀ K' : Act → World → Prop, Shut (∀ a w, Q .normal a w → K' a w) → if Region.wanted o (yielded ops a.tmps) = true then Oper.wp P o a w K' Q else K' (a.put o.dst undef) w) : wpE P md ops Q S (fuel + 1) listed a w :=
  ⟨fun h0 => (by rw [hr] at h0; cases h0), fun j hj => by
    rw [hr] at hj
    obtain rfl := List.mem_singleton.1 hj
    refine wpOp_step ho (fun K' hK => h K' (fun a w hq => hK a w ⟨fun ⟨m, hm, hf⟩ => ?_, ?_⟩))
    · have := List.all_eq_true.1 hl m (List.mem_range.2 hm)
      rw [this] at hf
      cases hf
    · cases fuel with
      | zero => exact ⟨hr2, hq⟩
      | succ n => exact ⟨fun _ => hq, by rw [hr2]; intro j hj; cases hj⟩⟩
/-- The beginning. -/
theorem start (S : World → Prop) {id : Nat} {a : Act} {w : World} (hm : P.follows .mixedOrders = true) (hS : S w.drew)
    (h : S w.drew → wpE P .any ops Q S ops.size (Array.replicate ops.size false) a w.drew) : (Code.region id ops true).wp P Q a w :=
  wp_region_any hm (wpE_any _ _ _ _ (h hS))
end
end Hd
end Go.Proofs.YthdigbkcffihkaaGreatDoor
namespace Go.Proofs.YthdigbkcffihkaaGreatDoor
open Go.RowKit
namespace Ck
open Lx
variable {w : World}
abbrev RCT : Nat := 40
abbrev RST : Nat := 42
abbrev RUT : Nat := 33
/-- A unit's two slices, of any two element types. -/
def UnitsG (tc ts B : Nat) (cv sv : Value) (cs : List Cls) (ss : List Src) (w : World) : Prop :=
  ∃ cl : List (Cls × Value), cl.map (·.1) = cs ∧ w.ownsRow B tc 4 cv cl.length (flatC cl) ∧ (∀ x ∈ cl, Strs B x.2 x.1.fields w) ∧ w.ownsRow B ts 4 sv ss.length (flatS ss)
theorem UnitsG.of {B : Nat} {cv sv : Value} {cs : List Cls} {ss : List Src} {w : World} (h : Units B cv sv cs ss w) : UnitsG CT SrT B cv sv cs ss w := h
theorem UnitsG.below {tc ts B : Nat} {cv sv : Value} {cs : List Cls} {ss : List Src} {w w' : World} (h : UnitsG tc ts B cv sv cs ss w) (hb : Below w.heap.size w w') : UnitsG tc ts B cv sv cs ss w' := by
  obtain ⟨cl, h1, h2, h3, h4⟩ := h
  exact ⟨cl, h1, own_below h2 hb, fun x hx => own_below (h3 x hx) hb, own_below h4 hb⟩
theorem cls_at {w : World} {tc B n c gg : Nat} {l : List (Cls × Value)} (h : w.ownsRow B tc 4 (.slice (some ⟨gg, 0, none⟩) n c) l.length (flatC l)) (i : Nat) (x : Cls × Value) (hx : l[i]? = some x) :
    w.cell? ⟨gg, i * 4, none⟩ = some (.string ⟨x.1.name.toArray⟩) ∧ w.cell? ⟨gg, i * 4 + 1, none⟩ = some (.string ⟨x.1.super.toArray⟩) ∧ w.cell? ⟨gg, i * 4 + 2, none⟩ = some x.2 ∧ w.cell? ⟨gg, i * 4 + 3, none⟩ = some (.int .i64 (x.1.at_ : Int)) := by
  have hf : ∀ (l : List (Cls × Value)) (i : Nat) (p : Cls × Value), l[i]? = some p → ∀ j u, (clsV p)[j]? = some u → (flatC l)[i * 4 + j]? = some u := by
    intro l
    induction l with
    | nil => intro i p h; simp at h
    | cons t l ih =>
      intro i p h j u hu
      have hj : j < (clsV t).length := by
        have := (List.getElem?_eq_some_iff.1 hu).1
        exact this
      cases i with
      | zero =>
        simp at h; subst h
        unfold flatC; rw [List.flatMap_cons, Nat.zero_mul, Nat.zero_add, List.getElem?_append_left hj]; exact hu
      | succ i =>
        have ih := ih i p (by simpa using h) j u hu
        unfold flatC at ih ⊢
        have h4 : (clsV t).length = 4 := rfl
        rw [List.flatMap_cons, List.getElem?_append_right (by rw [h4]; omega), h4, show (i + 1) * 4 + j - 4 = i * 4 + j by omega]
        exact ih
  have ha : ∀ k : Nat, (⟨gg, 0, none⟩ : Addr).add k = ⟨gg, k, none⟩ := fun k => by unfold Addr.add; split <;> simp_all
  have hh := fun j u hu => World.ownsRow.cells h (g := gg) rfl (i * 4 + j) u (hf l i x hx j u hu)
  simp only [ha] at hh
  exact ⟨hh 0 _ rfl, hh 1 _ rfl, hh 2 _ rfl, hh 3 _ rfl⟩
theorem srcs_atG {w : World} {ts B n c gg : Nat} {l : List Src} (h : w.ownsRow B ts 4 (.slice (some ⟨gg, 0, none⟩) n c) l.length (flatS l)) (i : Nat) (x : Src) (hx : l[i]? = some x) :
    w.cell? ⟨gg, i * 4, none⟩ = some (.string ⟨x.cls.toArray⟩) ∧ w.cell? ⟨gg, i * 4 + 1, none⟩ = some (.bool x.meta_) ∧ w.cell? ⟨gg, i * 4 + 2, none⟩ = some (.string ⟨x.text.toArray⟩) ∧ w.cell? ⟨gg, i * 4 + 3, none⟩ = some (.int .i64 (x.at_ : Int)) := by
  have hf : ∀ (l : List Src) (i : Nat) (p : Src), l[i]? = some p → ∀ j u, (srcV p)[j]? = some u → (flatS l)[i * 4 + j]? = some u := by
    intro l
    induction l with
    | nil => intro i p h; simp at h
    | cons t l ih =>
      intro i p h j u hu
      have hj : j < (srcV t).length := by
        have := (List.getElem?_eq_some_iff.1 hu).1
        exact this
      cases i with
      | zero =>
        simp at h; subst h
        unfold flatS; rw [List.flatMap_cons, Nat.zero_mul, Nat.zero_add, List.getElem?_append_left hj]; exact hu
      | succ i =>
        have ih := ih i p (by simpa using h) j u hu
        unfold flatS at ih ⊢
        have h4 : (srcV t).length = 4 := rfl
        rw [List.flatMap_cons, List.getElem?_append_right (by rw [h4]; omega), h4, show (i + 1) * 4 + j - 4 = i * 4 + j by omega]
        exact ih
  have ha : ∀ k : Nat, (⟨gg, 0, none⟩ : Addr).add k = ⟨gg, k, none⟩ := fun k => by unfold Addr.add; split <;> simp_all
  have hh := fun j u hu => World.ownsRow.cells h (g := gg) rfl (i * 4 + j) u (hf l i x hx j u hu)
  simp only [ha] at hh
  exact ⟨hh 0 _ rfl, hh 1 _ rfl, hh 2 _ rfl, hh 3 _ rfl⟩
end Ck
end Go.Proofs.YthdigbkcffihkaaGreatDoor
namespace Go.Proofs.YthdigbkcffihkaaGreatDoor
open Go.RowKit
namespace Ck
open Lx
variable {w : World}
abbrev TS : Nat := 38
/-- append([]string{}, l...). -/
theorem step_copy {ops : Array Oper} {o : Oper} {a : Act} {w : World} {K : Act → World → Prop} {Q : Exit → Act → World → Prop} {E' : Prop} (hg : o.guard = none) (s x : Operand)
    (hop : o.op = Op.call { callee := Callee.builtin Builtin.append, args := #[s, x], argTypes := #[TS, TS] }) {B0 B E : Nat} {xv : Value} {l : List Bytes} (hE : Blk ST E #[] w) (hB0 : B0 ≤ E)
    (hs : a.eval s = .slice (some ⟨E, 0, none⟩) 0 0) (hx : a.eval x = xv) (hsrc : w.ownsRow B ST 1 xv l.length (l.map strV)) (hn : l.length ≤ 1099511627)
    (hK : ∀ fo fc w', w'.ownsRow B0 ST 1 (.slice fo l.length fc) l.length (l.map strV) → w.grownBy w' (some E) → K (a.put o.dst (.slice fo l.length fc)) w') :
    if Region.wanted o (yielded ops a.tmps) = true then Oper.wp Tryz.prog o a w K Q else E' := by
  obtain ⟨i0, hi, hz0, hz1, hz2⟩ := info_parts (show (Tryz.prog.info? ST).map (fun i => (i.zero, i.size, i.bytes)) = some (some (.string ⟨#[]⟩), 1, 16) by kernel_rfl)
  have tsl : Tryz.prog.underlying TS = some (.slice ST) := by kernel_rfl
  have hown : w.ownsRow B0 ST 1 (.slice (some ⟨E, 0, none⟩) 0 0) 0 [] := ⟨rfl, .inr ⟨E, 0, #[], rfl, hB0, hE, Nat.le_refl _, Nat.zero_le _, rfl, rfl⟩⟩
  have hEl := hE.lt
  rcases hsrc.2 with ⟨rfl, h0⟩ | ⟨g, cap, cur, rfl, hbg, hgb, hnc, hcm, _⟩
  · obtain rfl : l = [] := List.eq_nil_of_length_eq_zero h0
    have hrun := run_append_owned_none (P := Tryz.prog) (w := w) B0 TS o.type ST i0 1 tsl hi _ 0 [] hown
    have hw : Region.wanted o (yielded ops a.tmps) = true := by simp [Region.wanted, hg]
    rw [if_pos hw]
    unfold Oper.wp
    simp [execOp, hop, resolve, invoke, builtin, hs, hx, hrun, Result.andThen]
    exact hK (some ⟨E, 0, none⟩) 0 w hown ⟨rfl, rfl, rfl, Nat.le_refl _, fun _ _ _ => rfl⟩
  · refine step_append_own hg s x TS hop B0 ST i0 (.string ⟨#[]⟩) 1 16 tsl hi hz0 hz1 hz2 rfl (by decide) _ 0 [] hs hown ⟨g, 0, none⟩ l.length cap (l.map strV) hx (by simp) (fun j u hj => World.ownsRow.cells hsrc (g := g) rfl j u hj) (fun u hu => ?_) (by omega) (by omega) (by omega) ?_
    · obtain ⟨b, _, rfl⟩ := List.mem_map.1 hu; rfl
    · intro v' w' hown' hgrow
      rw [Nat.zero_add, List.nil_append] at hown'
      obtain ⟨fo, fc, rfl, _⟩ := own_slice hown'
      exact hK fo fc w' hown' hgrow
/-- What Told hands back. -/
def ToldR (cs : List Cls) (ss : List Src) (w : World) (e : Ending) (w' : World) : Prop :=
  Below w.heap.size w w' ∧ ∃ cv sv, e = .returned (.agg #[cv, sv]) ∧ UnitsG RCT RST w.heap.size cv sv cs ss w'
set_option maxRecDepth 100000 in
set_option maxHeartbeats 3200000 in
theorem told_any {B : Nat} {cv sv : Value} {cs : List Cls} {ss : List Src} (hu : Units B cv sv cs ss w) (hn1 : cs.length ≤ 1099511627) (hn2 : ss.length ≤ 1099511627) (hf : ∀ c ∈ cs, c.fields.length ≤ 1099511627) :
    Calls Tryz.prog 10 #[.agg #[cv, sv]] w (ToldR cs ss w) := by
  obtain ⟨cl, hcl, hownC, hfl, hownS⟩ := hu
  obtain ⟨co, cc, rfl, hco⟩ := own_slice hownC
  obtain ⟨so, sc, rfl, hso⟩ := own_slice hownS
  obtain ⟨nc, hnc⟩ : ∃ nc, cl.length = nc := ⟨_, rfl⟩
  obtain ⟨ns, hns⟩ : ∃ ns, ss.length = ns := ⟨_, rfl⟩
  rw [hnc] at hco ⊢
  rw [hns] at hso ⊢
  have H1 := Lib.hid hownC
  have H2 := Lib.hid hownS
  have H3 := Lib.hid hfl
  have HCL := Lib.hid hcl
  have HNC := Lib.hid hnc
  have HNS := Lib.hid hns
  clear hcl hownC hfl hownS hnc hns
  obtain ⟨ic, hic, hc0, hc1, hc2⟩ := info_parts (show (Tryz.prog.info? RCT).map (fun i => (i.zero, i.size, i.bytes)) = some (some (.agg #[.string ⟨#[]⟩, .string ⟨#[]⟩, .slice none 0 0, .int .i64 0]), 4, 64) by kernel_rfl)
  obtain ⟨is, his, hs0, hs1, hs2⟩ := info_parts (show (Tryz.prog.info? RST).map (fun i => (i.zero, i.size, i.bytes)) = some (some (.agg #[.string ⟨#[]⟩, .bool false, .string ⟨#[]⟩, .int .i64 0]), 4, 48) by kernel_rfl)
  have tss : Tryz.prog.underlying 31 = some (.slice RST) := by kernel_rfl
  have tsc : Tryz.prog.underlying 30 = some (.slice RCT) := by kernel_rfl
  go_enter Tryz.func10, Tryz.ntmps10
  go_wp2_with fail
  have hs0 : ∀ (v : World) (o : Obj), (v.alloc o).heap.size = v.heap.size + 1 := fun v o => by simp
  have hu1 := (Blk.made (T := UT) (cs := #[.slice co nc cc, .slice so ns sc]) w)
  have hw1 : Below w.heap.size w (w.alloc (.cells #[.slice co nc cc, .slice so ns sc] UT)) := (Below.refl _ w).alloc (Nat.le_refl _) _
  have hz1 := hs0 w (.cells #[.slice co nc cc, .slice so ns sc] UT)
  obtain ⟨W1, hW1⟩ : ∃ W1, w.alloc (.cells #[.slice co nc cc, .slice so ns sc] UT) = W1 := ⟨_, rfl⟩
  rw [hW1] at hu1 hw1 hz1 ⊢
  have hu2 := hu1.alloc (.cells #[.slice none 0 0, .slice none 0 0] RUT)
  have ho2 := Blk.made (T := RUT) (cs := #[.slice none 0 0, .slice none 0 0]) W1
  have hw2 := hw1.alloc (B := w.heap.size) (by omega) (.cells #[.slice none 0 0, .slice none 0 0] RUT)
  have hz2 := hs0 W1 (.cells #[.slice none 0 0, .slice none 0 0] RUT)
  obtain ⟨W2, hW2⟩ : ∃ W2, W1.alloc (.cells #[.slice none 0 0, .slice none 0 0] RUT) = W2 := ⟨_, rfl⟩
  rw [hW2] at hu2 ho2 hw2 hz2 ⊢
  have hu3 := hu2.alloc (.cells #[.slice none 0 0, .slice none 0 0] RUT)
  have ho3 := ho2.alloc (.cells #[.slice none 0 0, .slice none 0 0] RUT)
  have hp3 := Blk.made (T := RUT) (cs := #[.slice none 0 0, .slice none 0 0]) W2
  have hw3 := hw2.alloc (B := w.heap.size) (by omega) (.cells #[.slice none 0 0, .slice none 0 0] RUT)
  have hz3 := hs0 W2 (.cells #[.slice none 0 0, .slice none 0 0] RUT)
  obtain ⟨W3, hW3⟩ : ∃ W3, W2.alloc (.cells #[.slice none 0 0, .slice none 0 0] RUT) = W3 := ⟨_, rfl⟩
  rw [hW3] at hu3 ho3 hp3 hw3 hz3 ⊢
  clear hW1 hW2 hW3 hu1 hu2 ho2 hw1 hw2 hs0
  rw [hz1] at ho3
  rw [hz2, hz1] at hp3
  rw [hz2, hz1] at hz3
  clear hz1 hz2
  have HW3 := Lib.hid hw3
  have HU3 := Lib.hid hu3
  clear hw3 hu3
  go_loopw [11] (fun y wr => ∃ (k : Nat) (cv : Value) (cl' : List (Cls × Value)), y = .int .i64 (k : Int) ∧ k ≤ nc ∧ Hid (cl'.map (·.1) = (cl.take k).map (·.1)) ∧ Hid (wr.ownsRow (w.heap.size + 3) RCT 4 cv cl'.length (flatC cl')) ∧ Hid (∀ x ∈ cl', Strs (w.heap.size + 3) x.2 x.1.fields wr) ∧ Hid (Blk UT w.heap.size #[.slice co nc cc, .slice so ns sc] wr) ∧ Hid (Blk RUT (w.heap.size + 1) #[.slice none 0 0, .slice none 0 0] wr) ∧ Hid (Blk RUT (w.heap.size + 1 + 1) #[cv, .slice none 0 0] wr) ∧ Below w.heap.size w wr ∧ w.heap.size + 3 ≤ wr.heap.size) (fun y _ => nc - (intOf y).toNat)
  case atStart => exact ⟨0, _, [], rfl, Nat.zero_le _, Lib.hid (by simp), Lib.hid (World.ownsRow_nil _ _ _ _), Lib.hid (fun x hx => by cases hx), HU3, Lib.hid ho3, Lib.hid hp3, HW3.out, by omega⟩
  case round =>
    obtain ⟨k, cv, cl', rfl, hk, hcl', hown', hfl', hU, hO1, hO2, hbw, hsz⟩ := hrel
    by_cases hkn : k < nc
    · have hdec : decide ((k : Int) < (nc : Int)) = true := by simpa using hkn
      obtain ⟨ga, rfl, ha1, ha2, ha3, ha4⟩ := hco (by omega)
      have hkw : IntKind.i64.wrap ((k : Int) + 1) = (k : Int) + 1 := IntWalk.i64_in _ (by unfold maxLen at ha4; omega)
      obtain ⟨xa, hxa⟩ : ∃ x, cl[k]? = some x := ⟨_, List.getElem?_eq_getElem (by rw [HNC.out]; exact hkn)⟩
      obtain ⟨c0, c1, c2, c3⟩ := cls_at (l := cl) (n := nc) (by have := own_below H1.out hbw; rw [HNC.out] at this ⊢; exact this) k xa hxa
      obtain ⟨xa, va⟩ := xa
      have hma := H3.out _ (List.mem_of_getElem? hxa)
      simp only [] at c0 c1 c2 c3 hma
      unfold Strs at hma
      obtain ⟨fo, fc, rfl, hfo⟩ := own_slice hma
      obtain ⟨nf, hnf⟩ : ∃ nf, xa.fields.length = nf := ⟨_, rfl⟩
      rw [hnf] at c2 hfo
      obtain ⟨na, hna⟩ : ∃ b : ByteArray, (⟨xa.name.toArray⟩ : ByteArray) = b := ⟨_, rfl⟩
      obtain ⟨nb, hnb⟩ : ∃ b : ByteArray, (⟨xa.super.toArray⟩ : ByteArray) = b := ⟨_, rfl⟩
      rw [hna] at c0
      rw [hnb] at c1
      have HMA := Lib.hid hma
      have HNF := Lib.hid hnf
      have HNA : Hid (strV xa.name = .string na) := Lib.hid (by rw [← hna]; rfl)
      have HNB : Hid (strV xa.super = .string nb) := Lib.hid (by rw [← hnb]; rfl)
      have hga := Nat.lt_of_lt_of_le ha2 hbw.size
      clear hma hnf hna hnb
      go_wp2_with fail
      have hx1 := Blk.made (T := CT) (cs := #[.string na, .string nb, .slice fo nf fc, .int .i64 (xa.at_ : Int)]) wr
      have hw2 : Below wr.heap.size wr (wr.alloc (.cells #[.string na, .string nb, .slice fo nf fc, .int .i64 (xa.at_ : Int)] CT)) := (Below.refl _ wr).alloc (Nat.le_refl _) _
      obtain ⟨W4, hW4⟩ : ∃ W4, wr.alloc (.cells #[.string na, .string nb, .slice fo nf fc, .int .i64 (xa.at_ : Int)] CT) = W4 := ⟨_, rfl⟩
      rw [hW4] at hx1 hw2 ⊢
      have x0 := hx1.c 0 _ rfl
      have x1 := hx1.c 1 _ rfl
      have x2 := hx1.c 2 _ rfl
      have x3 := hx1.c 3 _ rfl
      have o0 := (hO2.out.below hw2 hO2.out.lt).c 0 _ rfl
      have of := (hO2.out.below hw2 hO2.out.lt).fz
      obtain ⟨XB, hXB⟩ : ∃ XB, wr.heap.size = XB := ⟨_, rfl⟩
      rw [hXB] at hx1 x0 x1 x2 x3 ⊢
      have hO4 := hO2.out.below hw2 hO2.out.lt
      have HX := Lib.hid hx1
      have HO4 := Lib.hid hO4
      have hxl := hx1.lt
      have hol := hO4.lt
      have HW2 := Lib.hid hw2
      clear hW4 hXB hx1 hO4 hw2
      have hsall : ∀ v, Below W4.heap.size W4 v → (v.cell? ⟨w.heap.size + 1 + 1, 0, none⟩ = some cv ∧ v.cell? ⟨XB, 0, none⟩ = some (.string na) ∧ v.cell? ⟨XB, 1, none⟩ = some (.string nb) ∧ v.cell? ⟨XB, 2, none⟩ = some (.slice fo nf fc) ∧ v.cell? ⟨XB, 3, none⟩ = some (.int .i64 (xa.at_ : Int))) := fun v h => ⟨(HO4.out.below h hol).c 0 _ rfl, (HX.out.below h hxl).c 0 _ rfl, (HX.out.below h hxl).c 1 _ rfl, (HX.out.below h hxl).c 2 _ rfl, (HX.out.below h hxl).c 3 _ rfl⟩
      have hbE : Below W4.heap.size W4 (W4.alloc (.cells #[] ST)).drew := ((Below.refl _ W4).alloc (Nat.le_refl _) _).drew
      have HE0 : Hid (Blk ST W4.heap.size #[] (W4.alloc (.cells #[] ST)).drew) := Lib.hid (Blk.made W4)
      have HEB : Hid (w.heap.size + 3 ≤ W4.heap.size) := Lib.hid (by have := HW2.out.size; omega)
      have HSRC : Hid ((W4.alloc (.cells #[] ST)).drew.ownsRow B ST 1 (.slice fo nf fc) xa.fields.length (xa.fields.map strV)) := Lib.hid (by
        have h1 := own_below (own_below (own_below HMA.out hbw) HW2.out) hbE
        rw [HNF.out] at h1 ⊢
        exact h1)
      have HFL : Hid (xa.fields.length ≤ 1099511627) := Lib.hid (hf xa (by rw [← HCL.out]; exact List.mem_map.2 ⟨_, List.mem_of_getElem? hxa, rfl⟩))
      have HEX : Hid (∀ w5, (W4.alloc (.cells #[] ST)).drew.grownBy w5 (some W4.heap.size) → Below W4.heap.size W4 w5) := Lib.hid (fun w5 hg => hbE.grown hg hbE.size (fun k hk => by cases hk; exact Nat.le_refl _))
      refine wp_region_noPanic ?_
      refine Hd.start (fun w' => w'.cell? ⟨w.heap.size + 1 + 1, 0, none⟩ = some cv ∧ w'.cell? ⟨XB, 0, none⟩ = some (.string na) ∧ w'.cell? ⟨XB, 1, none⟩ = some (.string nb) ∧ w'.cell? ⟨XB, 2, none⟩ = some (.slice fo nf fc) ∧ w'.cell? ⟨XB, 3, none⟩ = some (.int .i64 (xa.at_ : Int))) (by kernel_rfl) (hsall _ (Below.refl _ W4).drew) (fun hH0 => ?_)
      refine Hd.take 0 1 (oi := ?_) (v := ?_) ?_ (by kernel_rfl) (fun _ _ _ h => h) hH0 ?_ ?_ ?_
      rotate_left 2
      · simp only [List.getElem?_toArray, List.getElem?_cons_zero]
        exact rfl
      · rfl
      · intro w hSw
        (try dsimp only at hSw)
        go_simp
        try with_reducible rfl
      try simp only [Act.put, List.setIfInBounds_toArray, List.set_cons_zero, List.set_cons_succ]
      refine Hd.take 1 14 (oi := ?_) (v := ?_) ?_ (by kernel_rfl) (fun _ _ _ h => h) hH0 ?_ ?_ ?_
      rotate_left 2
      · simp only [List.getElem?_toArray, List.getElem?_cons_succ, List.getElem?_cons_zero]
        exact rfl
      · rfl
      · intro w hSw
        (try dsimp only at hSw)
        go_simp
        try with_reducible rfl
      try simp only [Act.put, List.setIfInBounds_toArray, List.set_cons_zero, List.set_cons_succ]
      refine Hd.take 2 3 (oi := ?_) (v := ?_) ?_ (by kernel_rfl) (fun _ _ _ h => h) hH0 ?_ ?_ ?_
      rotate_left 2
      · simp only [List.getElem?_toArray, List.getElem?_cons_succ, List.getElem?_cons_zero]
        exact rfl
      · rfl
      · intro w hSw
        (try dsimp only at hSw)
        go_simp
        try with_reducible rfl
      try simp only [Act.put, List.setIfInBounds_toArray, List.set_cons_zero, List.set_cons_succ]
      refine Hd.take 3 12 (oi := ?_) (v := ?_) ?_ (by kernel_rfl) (fun _ _ _ h => h) hH0 ?_ ?_ ?_
      rotate_left 2
      · simp only [List.getElem?_toArray, List.getElem?_cons_succ, List.getElem?_cons_zero]
        exact rfl
      · rfl
      · intro w hSw
        (try dsimp only at hSw)
        go_simp
        try with_reducible rfl
      try simp only [Act.put, List.setIfInBounds_toArray, List.set_cons_zero, List.set_cons_succ]
      refine Hd.take 4 5 (oi := ?_) (v := ?_) ?_ (by kernel_rfl) (fun _ _ _ h => h) hH0 ?_ ?_ ?_
      rotate_left 2
      · simp only [List.getElem?_toArray, List.getElem?_cons_succ, List.getElem?_cons_zero]
        exact rfl
      · rfl
      · intro w hSw
        (try dsimp only at hSw)
        go_simp
        try with_reducible rfl
      try simp only [Act.put, List.setIfInBounds_toArray, List.set_cons_zero, List.set_cons_succ]
      refine Hd.take 5 12 (oi := ?_) (v := ?_) ?_ (by kernel_rfl) (fun _ _ _ h => h) hH0 ?_ ?_ ?_
      rotate_left 2
      · simp only [List.getElem?_toArray, List.getElem?_cons_succ, List.getElem?_cons_zero]
        exact rfl
      · rfl
      · intro w hSw
        (try dsimp only at hSw)
        go_simp
        try with_reducible rfl
      try simp only [Act.put, List.setIfInBounds_toArray, List.set_cons_zero, List.set_cons_succ]
      refine Hd.take 7 8 (oi := ?_) (v := ?_) ?_ (by kernel_rfl) (fun _ _ _ h => h) hH0 ?_ ?_ ?_
      rotate_left 2
      · simp only [List.getElem?_toArray, List.getElem?_cons_succ, List.getElem?_cons_zero]
        exact rfl
      · rfl
      · intro w hSw
        (try dsimp only at hSw)
        go_simp
        try with_reducible rfl
      try simp only [Act.put, List.setIfInBounds_toArray, List.set_cons_zero, List.set_cons_succ]
      refine Hd.take 8 9 (oi := ?_) (v := ?_) ?_ (by kernel_rfl) (fun _ _ _ h => h) hH0 ?_ ?_ ?_
      rotate_left 2
      · simp only [List.getElem?_toArray, List.getElem?_cons_succ, List.getElem?_cons_zero]
        exact rfl
      · rfl
      · intro w hSw
        (try dsimp only at hSw)
        go_simp
        try with_reducible rfl
      try simp only [Act.put, List.setIfInBounds_toArray, List.set_cons_zero, List.set_cons_succ]
      refine Hd.take 10 11 (oi := ?_) (v := ?_) ?_ (by kernel_rfl) (fun _ _ _ h => h) hH0 ?_ ?_ ?_
      rotate_left 2
      · simp only [List.getElem?_toArray, List.getElem?_cons_succ, List.getElem?_cons_zero]
        exact rfl
      · rfl
      · intro w hSw
        (try dsimp only at hSw)
        go_simp
        try with_reducible rfl
      try simp only [Act.put, List.setIfInBounds_toArray, List.set_cons_zero, List.set_cons_succ]
      refine Hd.take 11 12 (oi := ?_) (v := ?_) ?_ (by kernel_rfl) (fun _ _ _ h => h) hH0 ?_ ?_ ?_
      rotate_left 2
      · simp only [List.getElem?_toArray, List.getElem?_cons_succ, List.getElem?_cons_zero]
        exact rfl
      · rfl
      · intro w hSw
        (try dsimp only at hSw)
        go_simp
        try with_reducible rfl
      try simp only [Act.put, List.setIfInBounds_toArray, List.set_cons_zero, List.set_cons_succ]
      refine Hd.one 6 6 (o := ?_) ?_ (by kernel_rfl) (fun K hK => ?_)
      rotate_left 1
      · simp only [List.getElem?_toArray, List.getElem?_cons_succ, List.getElem?_cons_zero]
        exact rfl
      go_simp
      refine hK.out _ _ (hsall _ hbE) (fun hH1 => ?_)
      clear hK K
      try simp only [Act.put, List.setIfInBounds_toArray, List.set_cons_zero, List.set_cons_succ]
      refine Hd.one 9 9 (o := ?_) ?_ (by kernel_rfl) (fun K hK => ?_)
      rotate_left 1
      · simp only [List.getElem?_toArray, List.getElem?_cons_succ, List.getElem?_cons_zero]
        exact rfl
      refine step_copy rfl (.tmp 21) (.tmp 23) rfl (B0 := w.heap.size + 3) (E := W4.heap.size) (xv := .slice fo nf fc) (l := xa.fields) (w := (W4.alloc (.cells #[] ST)).drew) HE0.out HEB.out (by simp [Act.eval]) (by simp [Act.eval]) HSRC.out HFL.out ?_
      intro fo5 fc5 w5 hf5 hg5
      rw [HNF.out] at hf5 ⊢
      have hb5 := HEX.out w5 hg5
      refine hK.out _ _ (hsall _ hb5) (fun hH2 => ?_)
      clear hK K
      try simp only [Act.put, List.setIfInBounds_toArray, List.set_cons_zero, List.set_cons_succ]
      refine Hd.take 12 13 (oi := ?_) (v := ?_) ?_ (by kernel_rfl) (fun _ _ _ h => h) hH2 ?_ ?_ ?_
      rotate_left 2
      · simp only [List.getElem?_toArray, List.getElem?_cons_succ, List.getElem?_cons_zero]
        exact rfl
      · rfl
      · intro w hSw
        (try dsimp only at hSw)
        go_simp
        try with_reducible rfl
      try simp only [Act.put, List.setIfInBounds_toArray, List.set_cons_zero, List.set_cons_succ]
      have HF5 := Lib.hid hf5
      have hbX5 := hb5.alloc (B := W4.heap.size) hb5.size (.cells #[.string na, .string nb, .slice fo5 nf fc5, .int .i64 (xa.at_ : Int)] RCT)
      clear hf5 hg5
      refine Hd.one 13 13 (o := ?_) ?_ (by kernel_rfl) (fun K hK => ?_)
      rotate_left 1
      · simp only [List.getElem?_toArray, List.getElem?_cons_succ, List.getElem?_cons_zero]
        exact rfl
      go_simp
      refine hK.out _ _ (hsall _ hbX5) (fun hH3 => ?_)
      clear hK K
      try simp only [Act.put, List.setIfInBounds_toArray, List.set_cons_zero, List.set_cons_succ]
      have hOC := own_below (own_below hown'.out HW2.out) hbX5
      have hneX := cells4 w5 RCT (.string na) (.string nb) (.slice fo5 nf fc5) (.int .i64 (xa.at_ : Int))
      have hXl : w.heap.size + 3 ≤ (w5.alloc (.cells #[.string na, .string nb, .slice fo5 nf fc5, .int .i64 (xa.at_ : Int)] RCT)).heap.size := by have := HW2.out.size; have := hbX5.size; omega
      have HOC := Lib.hid hOC
      have HNEW := Lib.hid hneX
      have HXL := Lib.hid hXl
      have HONE : Hid (∀ u ∈ [Value.string na, .string nb, .slice fo5 nf fc5, .int .i64 (xa.at_ : Int)], u.oneCell' = true) := Lib.hid (by intro u hu; simp at hu; rcases hu with rfl | rfl | rfl | rfl <;> rfl)
      have hcll : cl'.length ≤ 1099511627 := by have h1 := congrArg List.length hcl'.out; have h2 := congrArg List.length HCL.out; rw [List.length_map, List.length_map, List.length_take] at h1; rw [List.length_map] at h2; omega
      have HB1 : Hid (cl'.length + 1 ≤ maxLen) := Lib.hid (by unfold maxLen; omega)
      have HB2 : Hid ((cl'.length + 1) * 64 ≤ 140737488355328) := Lib.hid (by omega)
      clear hOC hneX hXl hcll
      refine Hd.one 14 14 (o := ?_) ?_ (by kernel_rfl) (fun K hK => ?_)
      rotate_left 1
      · simp only [List.getElem?_toArray, List.getElem?_cons_succ, List.getElem?_cons_zero]
        exact rfl
      refine step_append_own rfl (.tmp 16) (.tmp 28) 30 rfl (w.heap.size + 3) RCT ic (.agg #[.string ⟨#[]⟩, .string ⟨#[]⟩, .slice none 0 0, .int .i64 0]) 4 64 tsc hic hc0 hc1 hc2 rfl (by decide) cv cl'.length (flatC cl') (by simp [Act.eval]) HOC.out ⟨w5.heap.size, 0, none⟩ 1 1 [.string na, .string nb, .slice fo5 nf fc5, .int .i64 (xa.at_ : Int)] (by simp [Act.eval]) rfl HNEW.out HONE.out HB1.out HB2.out HXL.out ?_
      intro v6 w6 hown6 hg6
      obtain ⟨g6, c6, rfl⟩ := own_form hown6 (by omega)
      have hx6 := blk_grown (HX.out.below hbX5 hxl) hg6 HOC.out (by decide)
      have ho6 := blk_grown (HO4.out.below hbX5 hol) hg6 HOC.out (by decide)
      refine hK.out _ _ (⟨ho6.c 0 _ rfl, hx6.c 0 _ rfl, hx6.c 1 _ rfl, hx6.c 2 _ rfl, hx6.c 3 _ rfl⟩) (fun hH4 => ?_)
      clear hK K
      try simp only [Act.put, List.setIfInBounds_toArray, List.set_cons_zero, List.set_cons_succ]
      refine Hd.take 15 16 (oi := ?_) (v := ?_) ?_ (by kernel_rfl) (fun _ _ _ h => h) hH4 ?_ ?_ ?_
      rotate_left 2
      · simp only [List.getElem?_toArray, List.getElem?_cons_succ, List.getElem?_cons_zero]
        exact rfl
      · rfl
      · intro w hSw
        (try dsimp only at hSw)
        go_simp
        try with_reducible rfl
      try simp only [Act.put, List.setIfInBounds_toArray, List.set_cons_zero, List.set_cons_succ]
      have o6 := ho6.c 0 _ rfl
      have f6 := ho6.fz
      refine Hd.last 16 (o := ?_) ?_ (by kernel_rfl) (by kernel_rfl) (by kernel_rfl) (fun K hK => ?_)
      rotate_left 1
      · simp only [List.getElem?_toArray, List.getElem?_cons_succ, List.getElem?_cons_zero]
        exact rfl
      go_simp
      refine hK.out _ _ ?_
      clear hK K
      try simp only [Act.put, List.setIfInBounds_toArray, List.set_cons_zero, List.set_cons_succ]
      simp only [NoPanic]
      have hu6 := (blk_grown ((hU.out.below HW2.out hU.out.lt).below hbX5 (Nat.lt_of_lt_of_le hU.out.lt HW2.out.size)) hg6 HOC.out (by decide))
      have hp6 := (blk_grown ((hO1.out.below HW2.out hO1.out.lt).below hbX5 (Nat.lt_of_lt_of_le hO1.out.lt HW2.out.size)) hg6 HOC.out (by decide))
      have HU6 := Lib.hid (hu6.far (p := ⟨w.heap.size + 1 + 1, 0, none⟩) (show w.heap.size ≠ w.heap.size + 1 + 1 by omega) (.slice (some ⟨g6, 0, none⟩) (cl'.length + 1) c6))
      have HP6 := Lib.hid (hp6.far (p := ⟨w.heap.size + 1 + 1, 0, none⟩) (show w.heap.size + 1 ≠ w.heap.size + 1 + 1 by omega) (.slice (some ⟨g6, 0, none⟩) (cl'.length + 1) c6))
      have HO6 := Lib.hid (ho6.set_ 0 (.slice (some ⟨g6, 0, none⟩) (cl'.length + 1) c6) _ rfl)
      have hb6 := ((hbw.trans (HW2.out.mono hbw.size)).trans (hbX5.mono (by have := HW2.out.size; omega))).grown hg6 (by have := HXL.out; omega) (fun k hk => by have := (HOC.out.lt k hk).1; omega)
      have HB6 := Lib.hid (hb6.setCell (p := ⟨w.heap.size + 1 + 1, 0, none⟩) (by show w.heap.size ≤ w.heap.size + 1 + 1; omega) (.slice (some ⟨g6, 0, none⟩) (cl'.length + 1) c6))
      have hz6 : w.heap.size + 3 ≤ (w6.setCell ⟨w.heap.size + 1 + 1, 0, none⟩ (.slice (some ⟨g6, 0, none⟩) (cl'.length + 1) c6)).heap.size := by
        have h2 := Nat.le_trans HXL.out hg6.size; have h3 : (w6.setCell ⟨w.heap.size + 1 + 1, 0, none⟩ (.slice (some ⟨g6, 0, none⟩) (cl'.length + 1) c6)).heap.size = w6.heap.size := by simp [World.setCell]
        rw [h3]; omega
      have hclN : (cl' ++ [(xa, Value.slice fo5 nf fc5)]).map (·.1) = (cl.take (k + 1)).map (·.1) := by
        obtain ⟨h1, h2⟩ := List.getElem?_eq_some_iff.1 hxa
        rw [List.map_append, hcl'.out, List.take_succ_eq_append_getElem h1, List.map_append, h2]; rfl
      have hflN : ∀ x ∈ cl' ++ [(xa, Value.slice fo5 nf fc5)], Strs (w.heap.size + 3) x.2 x.1.fields (w6.setCell ⟨w.heap.size + 1 + 1, 0, none⟩ (.slice (some ⟨g6, 0, none⟩) (cl'.length + 1) c6)) := by
        intro x hx
        rcases List.mem_append.1 hx with hx | hx
        · exact own_set (own_grown (own_below (own_below (hfl'.out x hx) HW2.out) hbX5) hg6 HOC.out (by decide)) ho6 (by decide) 0 _
        · rw [List.mem_singleton] at hx
          subst hx
          have h5 := own_set (own_grown (HF5.out.alloc (.cells #[.string na, .string nb, .slice fo5 nf fc5, .int .i64 (xa.at_ : Int)] RCT)) hg6 HOC.out (by decide)) ho6 (by decide) 0 (.slice (some ⟨g6, 0, none⟩) (cl'.length + 1) c6)
          show (w6.setCell _ _).ownsRow _ ST 1 (.slice fo5 nf fc5) xa.fields.length (xa.fields.map strV)
          rw [HNF.out]; exact h5
      have hownN : (w6.setCell ⟨w.heap.size + 1 + 1, 0, none⟩ (.slice (some ⟨g6, 0, none⟩) (cl'.length + 1) c6)).ownsRow (w.heap.size + 3) RCT 4 (.slice (some ⟨g6, 0, none⟩) (cl'.length + 1) c6) (cl' ++ [(xa, Value.slice fo5 nf fc5)]).length (flatC (cl' ++ [(xa, Value.slice fo5 nf fc5)])) := by
        rw [flatC_snoc, List.length_append]
        have h6 := own_set hown6 ho6 (by decide) 0 (.slice (some ⟨g6, 0, none⟩) (cl'.length + 1) c6)
        rw [show [Value.string na, .string nb, .slice fo5 nf fc5, .int .i64 (xa.at_ : Int)] = clsV (xa, .slice fo5 nf fc5) by show _ = [strV xa.name, strV xa.super, Value.slice fo5 nf fc5, Value.int .i64 (xa.at_ : Int)]; rw [HNA.out, HNB.out]] at h6
        exact h6
      have HCN := Lib.hid hclN
      have HFN := Lib.hid hflN
      have HWN := Lib.hid hownN
      clear hclN hflN hownN hg6 hown6 ho6 hx6 hu6 hp6 hb6 hH0 hH1 hH2 hH3 hH4 f6 o6 hsall hb5 hbX5
      go_wp2_with fail
      exact ⟨⟨k + 1, _, _, vint (by omega), by omega, HCN, HWN, HFN, HU6, HP6, HO6, HB6.out, hz6⟩, by simp only [intOf]; omega⟩
    · have hdec : decide ((k : Int) < (nc : Int)) = false := by simpa using hkn
      have u1 := hU.out.c 1 _ rfl
      have hcl2 : cl'.map (·.1) = cs := by rw [hcl'.out, List.take_of_length_le (by rw [HNC.out]; omega), HCL.out]
      have HCS := Lib.hid hcl2
      clear hcl2 hcl'
      go_wp2_with fail
      clear u1
      go_loopw [35] (fun y wr => ∃ (j : Nat) (sv' : Value) (sl' : List Src), y = .int .i64 (j : Int) ∧ j ≤ ns ∧ Hid (sl' = ss.take j) ∧ Hid (wr.ownsRow (w.heap.size + 3) RST 4 sv' sl'.length (flatS sl')) ∧ Hid (wr.ownsRow (w.heap.size + 3) RCT 4 cv cl'.length (flatC cl')) ∧ Hid (∀ x ∈ cl', Strs (w.heap.size + 3) x.2 x.1.fields wr) ∧ Hid (Blk RUT (w.heap.size + 1) #[.slice none 0 0, .slice none 0 0] wr) ∧ Hid (Blk RUT (w.heap.size + 1 + 1) #[cv, sv'] wr) ∧ Below w.heap.size w wr ∧ w.heap.size + 3 ≤ wr.heap.size) (fun y _ => ns - (intOf y).toNat)
      case atStart => exact ⟨0, _, [], rfl, Nat.zero_le _, Lib.hid (by simp), Lib.hid (World.ownsRow_nil _ _ _ _), hown', hfl', hO1, hO2, hbw, hsz⟩
      case round =>
        obtain ⟨j, sv', sl', rfl, hj, hsl', hownS, hownc, hflc, hO1, hO2, hbv, hsz⟩ := hrel
        by_cases hjn : j < ns
        · have hdj : decide ((j : Int) < (ns : Int)) = true := by simpa using hjn
          obtain ⟨ga, rfl, ha1, ha2, ha3, ha4⟩ := hso (by omega)
          have hjw : IntKind.i64.wrap ((j : Int) + 1) = (j : Int) + 1 := IntWalk.i64_in _ (by unfold maxLen at ha4; omega)
          obtain ⟨xa, hxa⟩ : ∃ x, ss[j]? = some x := ⟨_, List.getElem?_eq_getElem (by rw [HNS.out]; exact hjn)⟩
          obtain ⟨c0, c1, c2, c3⟩ := srcs_atG (l := ss) (n := ns) (by have := own_below H2.out hbv; rw [HNS.out] at this ⊢; exact this) j xa hxa
          obtain ⟨na, hna⟩ : ∃ b : ByteArray, (⟨xa.cls.toArray⟩ : ByteArray) = b := ⟨_, rfl⟩
          obtain ⟨nb, hnb⟩ : ∃ b : ByteArray, (⟨xa.text.toArray⟩ : ByteArray) = b := ⟨_, rfl⟩
          obtain ⟨nm, hnm⟩ : ∃ b : Bool, xa.meta_ = b := ⟨_, rfl⟩
          rw [hna] at c0
          rw [hnb] at c2
          rw [hnm] at c1
          have HNA : Hid (strV xa.cls = .string na) := Lib.hid (by rw [← hna]; rfl)
          have HNB : Hid (strV xa.text = .string nb) := Lib.hid (by rw [← hnb]; rfl)
          have HNM : Hid (xa.meta_ = nm) := Lib.hid hnm
          have hga := Nat.lt_of_lt_of_le ha2 hbv.size
          clear hna hnb hnm
          have hsll : sl'.length ≤ 1099511627 := by rw [hsl'.out, List.length_take]; omega
          have o1 := hO2.out.c 1 _ rfl
          have of := hO2.out.fz
          have hol := hO2.out.lt
          go_wp2_with (at_builtin; refine wpList_append_own _ rfl _ _ 31 rfl (w.heap.size + 3) RST is (.agg #[.string ⟨#[]⟩, .bool false, .string ⟨#[]⟩, .int .i64 0]) 4 48 tss his hs0 hs1 hs2 rfl (by decide) _ _ _ rfl ((hownS.out.alloc _).alloc _) ⟨wr.heap.size + 1, 0, none⟩ 1 1 [.string na, .bool nm, .string nb, .int .i64 (xa.at_ : Int)] rfl rfl ?c1 ?c2 ?c3 ?c4 ?c5 ?_)
          case c1 => have := cells4 (wr.alloc (.cells #[.string na, .bool nm, .string nb, .int .i64 (xa.at_ : Int)] SrT)) RST (.string na) (.bool nm) (.string nb) (.int .i64 (xa.at_ : Int)); simpa using this
          case c2 => intro u hu; simp at hu; rcases hu with rfl | rfl | rfl | rfl <;> rfl
          case c3 => unfold maxLen; omega
          case c4 => omega
          case c5 => simp; omega
          intro v6 w6 hown6 hg6 _
          obtain ⟨g6, c6, rfl⟩ := own_form hown6 (by omega)
          have hoX := (hownS.out.alloc (.cells #[.string na, .bool nm, .string nb, .int .i64 (xa.at_ : Int)] SrT)).alloc (.cells #[.string na, .bool nm, .string nb, .int .i64 (xa.at_ : Int)] RST)
          have hbX : Below wr.heap.size wr ((wr.alloc (.cells #[.string na, .bool nm, .string nb, .int .i64 (xa.at_ : Int)] SrT)).alloc (.cells #[.string na, .bool nm, .string nb, .int .i64 (xa.at_ : Int)] RST)) := ((Below.refl _ wr).alloc (Nat.le_refl _) _).alloc (by simp) _
          have ho6 := blk_grown (hO2.out.below hbX hol) hg6 hoX (by decide)
          have hp6 := blk_grown (hO1.out.below hbX hO1.out.lt) hg6 hoX (by decide)
          have hwc6 := own_grown (own_below hownc.out hbX) hg6 hoX (by decide)
          have hfl6 : ∀ x ∈ cl', Strs (w.heap.size + 3) x.2 x.1.fields w6 := fun x hx => own_grown (own_below (hflc.out x hx) hbX) hg6 hoX (by decide)
          have hb6 := (hbv.trans (hbX.mono hbv.size)).grown hg6 (by have := hbv.size; have := hbX.size; omega) (fun k hk => by have := (hoX.lt k hk).1; omega)
          have hz6 := Nat.le_trans (Nat.le_trans hsz hbX.size) hg6.size
          rw [show [Value.string na, .bool nm, .string nb, .int .i64 (xa.at_ : Int)] = srcV xa by show _ = [strV xa.cls, Value.bool xa.meta_, strV xa.text, Value.int .i64 (xa.at_ : Int)]; rw [HNA.out, HNB.out, HNM.out], ← flatS_snoc] at hown6
          have HCN : Hid (sl' ++ [xa] = ss.take (j + 1)) := Lib.hid (by
            obtain ⟨h1, h2⟩ := List.getElem?_eq_some_iff.1 hxa
            rw [hsl'.out, List.take_succ_eq_append_getElem h1, h2])
          have HO6 := Lib.hid ho6
          have HP6 := Lib.hid hp6
          have HWC := Lib.hid hwc6
          have HF6 := Lib.hid hfl6
          have HB6 := Lib.hid hb6
          have HW6 := Lib.hid hown6
          have o6 := ho6.c 1 _ rfl
          have f6 := ho6.fz
          clear hoX hbX ho6 hp6 hwc6 hfl6 hb6 hown6 hg6 c0 c1 c2 c3 o1 of hxa
          go_wp2_with fail
          have HZ6 : w.heap.size + 3 ≤ (w6.setCell ⟨w.heap.size + 1 + 1, 1, none⟩ (.slice (some ⟨g6, 0, none⟩) (sl'.length + 1) c6)).heap.size := by
            have h3 : (w6.setCell ⟨w.heap.size + 1 + 1, 1, none⟩ (.slice (some ⟨g6, 0, none⟩) (sl'.length + 1) c6)).heap.size = w6.heap.size := by simp [World.setCell]
            rw [h3]; exact hz6
          have HWN : Hid ((w6.setCell ⟨w.heap.size + 1 + 1, 1, none⟩ (.slice (some ⟨g6, 0, none⟩) (sl'.length + 1) c6)).ownsRow (w.heap.size + 3) RST 4 (.slice (some ⟨g6, 0, none⟩) (sl'.length + 1) c6) (sl' ++ [xa]).length (flatS (sl' ++ [xa]))) := Lib.hid (by
            rw [List.length_append]
            exact own_set HW6.out HO6.out (by decide) 1 _)
          exact ⟨⟨j + 1, _, _, vint (by omega), by omega, HCN, HWN, Lib.hid (own_set HWC.out HO6.out (by decide) 1 _), Lib.hid (fun x hx => own_set (HF6.out x hx) HO6.out (by decide) 1 _), Lib.hid (HP6.out.far (p := ⟨w.heap.size + 1 + 1, 1, none⟩) (show w.heap.size + 1 ≠ w.heap.size + 1 + 1 by omega) _), Lib.hid (HO6.out.set_ 1 _ _ rfl), HB6.out.setCell (p := ⟨w.heap.size + 1 + 1, 1, none⟩) (by show w.heap.size ≤ w.heap.size + 1 + 1; omega) _, HZ6⟩, by simp only [intOf]; omega⟩
        · have hdj : decide ((j : Int) < (ns : Int)) = false := by simpa using hjn
          obtain ⟨qo, qc, rfl, _⟩ := own_slice hownc.out
          obtain ⟨ro, rc, rfl, _⟩ := own_slice hownS.out
          have o0 := hO2.out.c 0 _ rfl
          have o1 := hO2.out.c 1 _ rfl
          have q0 := hO1.out.c 0 _ rfl
          have q1 := hO1.out.c 1 _ rfl
          have qf := hO1.out.fz
          have hsl2 : sl' = ss := by rw [hsl'.out, List.take_of_length_le (by rw [HNS.out]; omega)]
          subst hsl2
          go_wp2_with fail
          have hv1 := (hO1.out.set_ 0 (.slice qo cl'.length qc) _ rfl).set_ 1 (.slice ro sl'.length rc) _ rfl
          have hk0 := hO1.out
          have hk1 := hO1.out.set_ 0 (.slice qo cl'.length qc) _ rfl
          have HUN : Hid (UnitsG RCT RST w.heap.size (.slice qo cl'.length qc) (.slice ro sl'.length rc) cs sl' ((wr.setCell ⟨w.heap.size + 1, 0, none⟩ (.slice qo cl'.length qc)).setCell ⟨w.heap.size + 1, 1, none⟩ (.slice ro sl'.length rc))) := Lib.hid
            ⟨cl', HCS.out, own_mono (own_set (own_set hownc.out hk0 (by decide) 0 _) hk1 (by decide) 1 _) (by omega), fun x hx => own_mono (own_set (own_set (hflc.out x hx) hk0 (by decide) 0 _) hk1 (by decide) 1 _) (by omega), own_mono (own_set (own_set hownS.out hk0 (by decide) 0 _) hk1 (by decide) 1 _) (by omega)⟩
          have HBV := Lib.hid ((hbv.setCell (p := ⟨w.heap.size + 1, 0, none⟩) (by show w.heap.size ≤ w.heap.size + 1; omega) (.slice qo cl'.length qc)).setCell (p := ⟨w.heap.size + 1, 1, none⟩) (by show w.heap.size ≤ w.heap.size + 1; omega) (.slice ro sl'.length rc))
          obtain ⟨V, hV⟩ : ∃ V, (wr.setCell ⟨w.heap.size + 1, 0, none⟩ (.slice qo cl'.length qc)).setCell ⟨w.heap.size + 1, 1, none⟩ (.slice ro sl'.length rc) = V := ⟨_, rfl⟩
          rw [hV] at hv1 HUN HBV ⊢
          clear hV hk0 hk1
          have e0 := hv1.c 0 _ rfl
          have e1 := hv1.c 1 _ rfl
          refine bodyPost_ret (v := .agg #[.slice qo cl'.length qc, .slice ro sl'.length rc]) (by simp [results, Tryz.results10, go_sem, e0, e1]) rfl ?_
          exact ⟨HBV.out, _, _, rfl, HUN.out⟩
end Ck
end Go.Proofs.YthdigbkcffihkaaGreatDoor
namespace Go.Proofs.YthdigbkcffihkaaGreatDoor
open Go.RowKit
namespace Ck
open Lx
variable {w : World}
def keyC (c : Cls) : Bytes × Bytes × List Bytes := (c.name, c.super, c.fields)
def keyS (x : Src) : Bytes × Bool × Bytes := (x.cls, x.meta_, x.text)
set_option maxRecDepth 100000 in
set_option maxHeartbeats 3200000 in
theorem same_any {B B' : Nat} {ca sa cb sb : Value} {cs cs' : List Cls} {ss ss' : List Src} (hA : UnitsG RCT RST B ca sa cs ss w) (hB : UnitsG RCT RST B' cb sb cs' ss' w) (hcs : cs.map keyC = cs'.map keyC) (hss : ss.map keyS = ss'.map keyS) :
    Calls Tryz.prog 11 #[.agg #[ca, sa], .agg #[cb, sb]] w (Back (.bool true) w) := by
  obtain ⟨la, hla, hownA, hfA, hsA⟩ := hA
  obtain ⟨lb, hlb, hownB, hfB, hsB⟩ := hB
  obtain ⟨ao, ac, rfl, hao⟩ := own_slice hownA
  obtain ⟨aso, asc, rfl, haso⟩ := own_slice hsA
  obtain ⟨bo, bc, rfl, hbo⟩ := own_slice hownB
  obtain ⟨bso, bsc, rfl, hbso⟩ := own_slice hsB
  have hn1 : lb.length = la.length := by
    have h1 := congrArg List.length hla
    have h2 := congrArg List.length hlb
    have h3 := congrArg List.length hcs
    simp only [List.length_map] at h1 h2 h3
    omega
  have hn2 : ss'.length = ss.length := by
    have h3 := congrArg List.length hss
    simp only [List.length_map] at h3
    omega
  rw [hn1] at hbo ⊢
  rw [hn2] at hbso ⊢
  obtain ⟨nc, hnc⟩ : ∃ nc, la.length = nc := ⟨_, rfl⟩
  obtain ⟨ns, hns⟩ : ∃ ns, ss.length = ns := ⟨_, rfl⟩
  rw [hnc] at hao hbo ⊢
  rw [hns] at haso hbso ⊢
  have H1 := Lib.hid hownA
  have H2 := Lib.hid hownB
  have H3 := Lib.hid hfA
  have H4 := Lib.hid hfB
  have H5 := Lib.hid hsA
  have H6 := Lib.hid hsB
  have HK1 := Lib.hid hcs
  have HK2 := Lib.hid hss
  have HLA := Lib.hid hla
  have HLB := Lib.hid hlb
  have HN1 := Lib.hid hn1
  have HN2 := Lib.hid hn2
  have HNC := Lib.hid hnc
  have HNS := Lib.hid hns
  clear hownA hownB hfA hfB hsA hsB hcs hss hla hlb hn1 hn2 hnc hns
  go_enter Tryz.func11, Tryz.ntmps11
  go_wp2_with fail
  have ha0 := (Blk.made (T := RUT) (cs := #[.slice ao nc ac, .slice aso ns asc]) w).alloc (.cells #[.slice bo nc bc, .slice bso ns bsc] RUT)
  have hb0 := Blk.made (T := RUT) (cs := #[.slice bo nc bc, .slice bso ns bsc]) (w.alloc (.cells #[.slice ao nc ac, .slice aso ns asc] RUT))
  rw [show (w.alloc (.cells #[.slice ao nc ac, .slice aso ns asc] RUT)).heap.size = w.heap.size + 1 by simp] at hb0
  have hw0 : Below w.heap.size w ((w.alloc (.cells #[.slice ao nc ac, .slice aso ns asc] RUT)).alloc (.cells #[.slice bo nc bc, .slice bso ns bsc] RUT)) := ((Below.refl _ w).alloc (Nat.le_refl _) _).alloc (by simp) _
  obtain ⟨W1, hW1⟩ : ∃ W1, (w.alloc (.cells #[.slice ao nc ac, .slice aso ns asc] RUT)).alloc (.cells #[.slice bo nc bc, .slice bso ns bsc] RUT) = W1 := ⟨_, rfl⟩
  rw [hW1] at ha0 hb0 hw0 ⊢
  clear hW1
  obtain ⟨AB, hAB⟩ : ∃ AB, w.heap.size = AB := ⟨_, rfl⟩
  obtain ⟨BB, hBB⟩ : ∃ BB, w.heap.size + 1 = BB := ⟨_, rfl⟩
  rw [hBB] at hb0
  rw [hAB] at ha0
  have HW0 := Lib.hid hw0
  have HAB := Lib.hid hAB
  have HBB := Lib.hid hBB
  rw [hBB, hAB]
  have HA0 := Lib.hid ha0
  have HB0 := Lib.hid hb0
  clear hw0 hAB hBB ha0 hb0
  go_loopw [5] (fun y wr => ∃ k : Nat, y = .int .i64 (k : Int) ∧ k ≤ nc ∧ Below W1.heap.size W1 wr) (fun y _ => nc - (intOf y).toNat)
  case atStart => exact ⟨0, rfl, Nat.zero_le _, Below.refl _ _⟩
  case round =>
    obtain ⟨k, rfl, hk, hbr⟩ := hrel
    have hbw := HW0.out.trans (hbr.mono HW0.out.size)
    have a0 := (HA0.out.below hbr HA0.out.lt).c 0 _ rfl
    have a1 := (HA0.out.below hbr HA0.out.lt).c 1 _ rfl
    have b0 := (HB0.out.below hbr HB0.out.lt).c 0 _ rfl
    have b1 := (HB0.out.below hbr HB0.out.lt).c 1 _ rfl
    by_cases hkn : k < nc
    · have hdec : decide ((k : Int) < (nc : Int)) = true := by simpa using hkn
      obtain ⟨ga, rfl, ha1, ha2, ha3, ha4⟩ := hao (by omega)
      obtain ⟨gb, rfl, hb1, hb2, hb3, hb4⟩ := hbo (by omega)
      have hkw : IntKind.i64.wrap ((k : Int) + 1) = (k : Int) + 1 := IntWalk.i64_in _ (by unfold maxLen at ha4; omega)
      obtain ⟨xa, hxa⟩ : ∃ x, la[k]? = some x := ⟨_, List.getElem?_eq_getElem (by rw [HNC.out]; exact hkn)⟩
      obtain ⟨xb, hxb⟩ : ∃ x, lb[k]? = some x := ⟨_, List.getElem?_eq_getElem (by rw [HN1.out, HNC.out]; exact hkn)⟩
      have hkey : keyC xa.1 = keyC xb.1 := by
        have h1 : (cs.map keyC)[k]? = some (keyC xa.1) := by rw [← HLA.out, List.map_map, List.getElem?_map, hxa]; rfl
        have h2 : (cs'.map keyC)[k]? = some (keyC xb.1) := by rw [← HLB.out, List.map_map, List.getElem?_map, hxb]; rfl
        rw [HK1.out, h2] at h1
        exact (Option.some.inj h1).symm
      obtain ⟨c0, c1, c2, _⟩ := cls_at (l := la) (n := nc) (by have := own_below H1.out hbw; rw [HNC.out] at this ⊢; exact this) k xa hxa
      obtain ⟨d0, d1, d2, _⟩ := cls_at (l := lb) (n := nc) (by have := own_below H2.out hbw; rw [HN1.out, HNC.out] at this ⊢; exact this) k xb hxb
      obtain ⟨xa, va⟩ := xa
      obtain ⟨xb, vb⟩ := xb
      have hma := H3.out _ (List.mem_of_getElem? hxa)
      have hmb := H4.out _ (List.mem_of_getElem? hxb)
      simp only [keyC, Prod.mk.injEq] at hkey hma hmb c0 c1 c2 d0 d1 d2
      obtain ⟨e1, e2, e3⟩ := hkey
      rw [← e1] at d0
      rw [← e2] at d1
      unfold Strs at hma hmb
      rw [← e3] at hmb
      obtain ⟨fo, fc, rfl, hfo⟩ := own_slice hma
      obtain ⟨go, gc, rfl, hgo⟩ := own_slice hmb
      obtain ⟨nf, hnf⟩ : ∃ nf, xa.fields.length = nf := ⟨_, rfl⟩
      rw [hnf] at c2 d2 hfo hgo
      obtain ⟨na, hna⟩ : ∃ b : ByteArray, (⟨xa.name.toArray⟩ : ByteArray) = b := ⟨_, rfl⟩
      obtain ⟨nb, hnb⟩ : ∃ b : ByteArray, (⟨xa.super.toArray⟩ : ByteArray) = b := ⟨_, rfl⟩
      rw [hna] at c0 d0
      rw [hnb] at c1 d1
      have HMA := Lib.hid hma
      have HMB := Lib.hid hmb
      have HNF := Lib.hid hnf
      obtain ⟨a3, ha5⟩ : ∃ z : Int, (xa.at_ : Int) = z := ⟨_, rfl⟩
      obtain ⟨_, _, _, c3⟩ := cls_at (l := la) (n := nc) (by have := own_below H1.out hbw; rw [HNC.out] at this ⊢; exact this) k _ hxa
      obtain ⟨_, _, _, d3⟩ := cls_at (l := lb) (n := nc) (by have := own_below H2.out hbw; rw [HN1.out, HNC.out] at this ⊢; exact this) k _ hxb
      simp only [] at c3 d3
      have hga := Nat.lt_of_lt_of_le ha2 hbw.size
      have hgb := Nat.lt_of_lt_of_le hb2 hbw.size
      have hABl := Nat.lt_of_lt_of_le HA0.out.lt hbr.size
      have hBBl := Nat.lt_of_lt_of_le HB0.out.lt hbr.size
      clear hma hmb hnf hna hnb e1 e2 e3 ha5 hxa hxb
      go_wp2_with fail
      have hx1 := (Blk.made (T := RCT) (cs := #[.string na, .string nb, .slice fo nf fc, .int .i64 (xa.at_ : Int)]) wr).alloc (.cells #[.string na, .string nb, .slice go nf gc, .int .i64 (xb.at_ : Int)] RCT)
      have hy1 := Blk.made (T := RCT) (cs := #[.string na, .string nb, .slice go nf gc, .int .i64 (xb.at_ : Int)]) (wr.alloc (.cells #[.string na, .string nb, .slice fo nf fc, .int .i64 (xa.at_ : Int)] RCT))
      rw [show (wr.alloc (.cells #[.string na, .string nb, .slice fo nf fc, .int .i64 (xa.at_ : Int)] RCT)).heap.size = wr.heap.size + 1 by simp] at hy1
      have hw2 : Below wr.heap.size wr ((wr.alloc (.cells #[.string na, .string nb, .slice fo nf fc, .int .i64 (xa.at_ : Int)] RCT)).alloc (.cells #[.string na, .string nb, .slice go nf gc, .int .i64 (xb.at_ : Int)] RCT)) := ((Below.refl _ wr).alloc (Nat.le_refl _) _).alloc (by simp) _
      obtain ⟨W2, hW2⟩ : ∃ W2, (wr.alloc (.cells #[.string na, .string nb, .slice fo nf fc, .int .i64 (xa.at_ : Int)] RCT)).alloc (.cells #[.string na, .string nb, .slice go nf gc, .int .i64 (xb.at_ : Int)] RCT) = W2 := ⟨_, rfl⟩
      rw [hW2] at hx1 hy1 hw2 ⊢
      obtain ⟨XB, hXB⟩ : ∃ XB, wr.heap.size = XB := ⟨_, rfl⟩
      obtain ⟨YB, hYB⟩ : ∃ YB, wr.heap.size + 1 = YB := ⟨_, rfl⟩
      rw [hYB] at hy1
      rw [hXB] at hx1
      rw [hYB, hXB]
      have HX := Lib.hid hx1
      have HY := Lib.hid hy1
      have HW2 := Lib.hid (hbr.trans (hw2.mono hbr.size))
      clear hW2 hXB hYB hx1 hy1 hw2 c0 c1 c2 c3 d0 d1 d2 d3 a0 a1 b0 b1
      go_loopw [8] (fun y wr => ∃ j : Nat, y = .int .i64 (j : Int) ∧ j ≤ nf ∧ Below W2.heap.size W2 wr) (fun y _ => nf - (intOf y).toNat)
      case atStart => exact ⟨0, rfl, Nat.zero_le _, Below.refl _ _⟩
      case round =>
        obtain ⟨j, rfl, hj, hbv⟩ := hrel
        have x2 := (HX.out.below hbv HX.out.lt).c 2 _ rfl
        have y2 := (HY.out.below hbv HY.out.lt).c 2 _ rfl
        have hbz := HW2.out.trans (hbv.mono HW2.out.size)
        have hbq := HW0.out.trans (hbz.mono HW0.out.size)
        by_cases hjn : j < nf
        · have hdj : decide ((j : Int) < (nf : Int)) = true := by simpa using hjn
          obtain ⟨fa, rfl, fa1, fa2, fa3, fa4⟩ := hfo (by omega)
          obtain ⟨fb, rfl, fb1, fb2, fb3, fb4⟩ := hgo (by omega)
          have hjw : IntKind.i64.wrap ((j : Int) + 1) = (j : Int) + 1 := IntWalk.i64_in _ (by unfold maxLen at fa4; omega)
          obtain ⟨f, hf⟩ : ∃ f, xa.fields[j]? = some f := ⟨_, List.getElem?_eq_getElem (by rw [HNF.out]; exact hjn)⟩
          have r0 := strs_at (n := nf) (by have := own_below HMA.out hbq; rw [HNF.out] at this ⊢; exact this) j f hf
          have r1 := strs_at (n := nf) (by have := own_below HMB.out hbq; rw [HNF.out] at this ⊢; exact this) j f hf
          obtain ⟨bf, hbf⟩ : ∃ b : ByteArray, (⟨f.toArray⟩ : ByteArray) = b := ⟨_, rfl⟩
          rw [hbf] at r0 r1
          clear hbf hf
          go_wp2_with fail
          go_quiet (fail)
          go_wp2_with fail
          exact ⟨⟨j + 1, vint (by omega), by omega, Below_drewN hbv _⟩, by simp only [intOf]; omega⟩
        · have hdj : decide ((j : Int) < (nf : Int)) = false := by simpa using hjn
          go_wp2_with fail
          exact ⟨⟨k + 1, vint (by omega), by omega, hbz⟩, by simp only [intOf]; omega⟩
    · have hdec : decide ((k : Int) < (nc : Int)) = false := by simpa using hkn
      go_wp2_with fail
      clear a0 a1 b0 b1
      go_loopw [9] (fun y wr => ∃ k : Nat, y = .int .i64 (k : Int) ∧ k ≤ ns ∧ Below W1.heap.size W1 wr) (fun y _ => ns - (intOf y).toNat)
      case atStart => exact ⟨0, rfl, Nat.zero_le _, hbr⟩
      case round =>
        obtain ⟨j, rfl, hj, hbv⟩ := hrel
        have hbq := HW0.out.trans (hbv.mono HW0.out.size)
        have a1 := (HA0.out.below hbv HA0.out.lt).c 1 _ rfl
        have b1 := (HB0.out.below hbv HB0.out.lt).c 1 _ rfl
        by_cases hjn : j < ns
        · have hdj : decide ((j : Int) < (ns : Int)) = true := by simpa using hjn
          obtain ⟨fa, rfl, fa1, fa2, fa3, fa4⟩ := haso (by omega)
          obtain ⟨fb, rfl, fb1, fb2, fb3, fb4⟩ := hbso (by omega)
          have hjw : IntKind.i64.wrap ((j : Int) + 1) = (j : Int) + 1 := IntWalk.i64_in _ (by unfold maxLen at fa4; omega)
          obtain ⟨xa, hxa⟩ : ∃ x, ss[j]? = some x := ⟨_, List.getElem?_eq_getElem (by rw [HNS.out]; exact hjn)⟩
          obtain ⟨xb, hxb⟩ : ∃ x, ss'[j]? = some x := ⟨_, List.getElem?_eq_getElem (by rw [HN2.out, HNS.out]; exact hjn)⟩
          have hkey : keyS xa = keyS xb := by
            have h1 : (ss.map keyS)[j]? = some (keyS xa) := by rw [List.getElem?_map, hxa]; rfl
            have h2 : (ss'.map keyS)[j]? = some (keyS xb) := by rw [List.getElem?_map, hxb]; rfl
            rw [HK2.out, h2] at h1
            exact (Option.some.inj h1).symm
          obtain ⟨c0, c1, c2, _⟩ := srcs_atG (l := ss) (n := ns) (by have := own_below H5.out hbq; rw [HNS.out] at this ⊢; exact this) j xa hxa
          obtain ⟨d0, d1, d2, _⟩ := srcs_atG (l := ss') (n := ns) (by have := own_below H6.out hbq; rw [HN2.out, HNS.out] at this ⊢; exact this) j xb hxb
          simp only [keyS, Prod.mk.injEq] at hkey
          obtain ⟨e1, e2, e3⟩ := hkey
          rw [← e1] at d0
          rw [← e2] at d1
          rw [← e3] at d2
          obtain ⟨na, hna⟩ : ∃ b : ByteArray, (⟨xa.cls.toArray⟩ : ByteArray) = b := ⟨_, rfl⟩
          obtain ⟨nb, hnb⟩ : ∃ b : ByteArray, (⟨xa.text.toArray⟩ : ByteArray) = b := ⟨_, rfl⟩
          obtain ⟨nm, hnm⟩ : ∃ b : Bool, xa.meta_ = b := ⟨_, rfl⟩
          rw [hna] at c0 d0
          rw [hnb] at c2 d2
          rw [hnm] at c1 d1
          clear hna hnb hnm e1 e2 e3 hxa hxb
          go_wp2_with fail
          go_quiet (fail)
          go_wp2_with fail
          exact ⟨⟨j + 1, vint (by omega), by omega, Below_drewN hbv _⟩, by simp only [intOf]; omega⟩
        · have hdj : decide ((j : Int) < (ns : Int)) = false := by simpa using hjn
          go_wp2_with fail
          go_ret
          exact ⟨rfl, hbq⟩
end Ck
end Go.Proofs.YthdigbkcffihkaaGreatDoor
namespace Go.Proofs.YthdigbkcffihkaaGreatDoor
open Go.RowKit
namespace Ck
open Lx
theorem wordsF_len : ∀ (f : Nat) (s : Bytes), (wordsF f s).length ≤ f
  | 0, _ => Nat.le_refl _
  | f + 1, s => by
    unfold wordsF
    split
    · exact Nat.zero_le _
    · have := wordsF_len f (Lib.trimLeftS (s.dropWhile (fun c => !Lx.blank c)) blanksL)
      simp only [List.length_cons]; omega
/-- A class has few fields. -/
def Few (st : Rst) : Prop := ∀ c ∈ st.cs, c.fields.length ≤ 4097
theorem stepL_few {p : Piece} {st st' : Rst} (h : stepL p st = .ok st') (hm : Few st) : Few st' := by
  unfold stepL at h
  split at h
  · cases h; exact hm
  · split at h
    · cases h; exact hm
    · unfold takeL at h
      split at h
      · cases h
      · rename_i l hl
        split at h
        · split at h
          · cases h
            intro c hc
            rcases List.mem_append.1 hc with hc | hc
            · exact hm c hc
            · rw [List.mem_singleton] at hc
              subst hc
              have h1 := wordsF_len ((wd l 4).length + 1) (Lib.trimS (wd l 4) blanksL)
              have h2 : (wd l 4).length ≤ 4096 := by
                unfold wd
                cases h4 : l[4]? with
                | none => exact Nat.zero_le _
                | some t => exact (allR_small _ _ hl t (List.mem_of_getElem? h4)).2.2.2
              show (wordsL (wd l 4)).length ≤ 4097
              unfold wordsL
              omega
          · cases h
        · split at h
          · cases h; exact hm
          · split at h
            · cases h; exact hm
            · cases h
theorem readP_few : ∀ (ps : List Piece) (st st' : Rst) (n : Nat), readP ps st = .ok st' → Few st → Mild n st → Few st' ∧ Mild (n + ps.length) st'
  | [], st, st', n, h, hf, hm => by cases h; exact ⟨hf, hm⟩
  | p :: r, st, st', n, h, hf, hm => by
    unfold readP at h
    split at h
    · cases h
    · rename_i st1 h1
      have := readP_few r st1 st' (n + 1) h (stepL_few h1 hf) (stepL_mild h1 hm)
      rw [List.length_cons, show n + (r.length + 1) = n + 1 + r.length by omega]
      exact this
theorem read_few {s : Bytes} {cs : List Cls} {ss : List Src} (h : readR s = .ok (cs, ss)) : cs.length ≤ 1099511627 ∧ ss.length ≤ 1099511627 ∧ ∀ c ∈ cs, c.fields.length ≤ 1099511627 := by
  obtain ⟨h1, h2, _⟩ := readR_ok h
  obtain ⟨h3, h4⟩ := readP_few _ _ _ 0 h2 (fun c hc => by cases hc) (show Mild 0 ⟨[], [], none⟩ from Nat.le_refl _)
  have h5 := (cut_le s).1
  unfold Mild at h4
  dsimp only at h4
  refine ⟨by omega, by omega, fun c hc => ?_⟩
  have := h3 c hc
  omega
theorem readP_err : ∀ (ps : List Piece) (st : Rst) (q : Nat) (n : Int), readP ps st = .error (q, n) → ∃ p ∈ ps, p.2 = q
  | [], st, q, n, h => by cases h
  | p :: r, st, q, n, h => by
    unfold readP at h
    split at h
    · cases h; exact ⟨p, List.mem_cons_self .., rfl⟩
    · obtain ⟨x, hx, h2⟩ := readP_err r _ q n h
      exact ⟨x, List.mem_cons_of_mem _ hx, h2⟩
theorem read_err {s : Bytes} {q : Nat} {n : Int} (h : readR s = .error (q, n)) : q ≤ s.length := by
  unfold readR at h
  obtain ⟨_, h2, _, h4⟩ := cut_le s
  split at h
  · cases h; exact Nat.zero_le _
  · split at h
    · rename_i x hx
      cases h
      obtain ⟨p, hp, rfl⟩ := readP_err _ _ _ _ hx
      exact (h2 p hp).2
    · split at h
      · cases h; exact h4
      · split at h
        · cases h; exact Nat.le_refl _
        · cases h
/-- append(l, m...) of two rows of one's own. -/
theorem step_join {P : Program} {ops : Array Oper} {o : Oper} {a : Act} {w : World} {K : Act → World → Prop} {Q : Exit → Act → World → Prop} {E' : Prop} (hg : o.guard = none) (s x : Operand) (t e : TypeId)
    (hop : o.op = Op.call { callee := Callee.builtin Builtin.append, args := #[s, x], argTypes := #[t, t] }) (tsl : P.underlying t = some (.slice e)) (i0 : TypeInfo) (z : Value) (size bytes : Nat)
    (h2 : P.info? e = some i0) (h3 : i0.zero = some z) (h4 : i0.size = size) (h5 : i0.bytes = bytes) (h6 : z.cells.size = size) (h7 : 0 < size) {B0 B n m : Nat} {v xv : Value} {xs ys : List Value}
    (hd : w.ownsRow B0 e size v n xs) (hs : a.eval s = v) (hx : a.eval x = xv) (hsrc : w.ownsRow B e size xv m ys) (hone : ∀ u ∈ ys, u.oneCell' = true) (b1 : n + m ≤ maxLen) (b2 : (n + m) * bytes ≤ 140737488355328) (hB : B0 ≤ w.heap.size)
    (hK : ∀ v' w', w'.ownsRow B0 e size v' (n + m) (xs ++ ys) → w.grownBy w' v.ownBlock → K (a.put o.dst v') w') :
    if Region.wanted o (yielded ops a.tmps) = true then Oper.wp P o a w K Q else E' := by
  have hl := hsrc.1
  rcases hsrc.2 with ⟨rfl, rfl⟩ | ⟨g, cap, cur, rfl, hbg, hgb, hnc, hcm, _⟩
  · obtain rfl : ys = [] := List.eq_nil_of_length_eq_zero (by rw [hl]; simp)
    have hrun := run_append_owned_none (P := P) (w := w) B0 t o.type e i0 size tsl h2 v n xs hd
    have hw : Region.wanted o (yielded ops a.tmps) = true := by simp [Region.wanted, hg]
    rw [if_pos hw]
    unfold Oper.wp
    simp [execOp, hop, resolve, invoke, builtin, hs, hx, hrun, Result.andThen]
    exact hK v w (by simpa using hd) ⟨rfl, rfl, rfl, Nat.le_refl _, fun _ _ _ => rfl⟩
  · exact step_append_own hg s x t hop B0 e i0 z size bytes tsl h2 h3 h4 h5 h6 h7 v n xs hs hd ⟨g, 0, none⟩ m cap ys hx hl (fun j u hj => World.ownsRow.cells hsrc (g := g) rfl j u hj) hone b1 b2 hB hK
theorem oneC (l : List (Cls × Value)) (h : ∀ x ∈ l, x.2.oneCell' = true) : ∀ u ∈ flatC l, u.oneCell' = true := by
  intro u hu
  obtain ⟨x, hx, hu⟩ := List.mem_flatMap.1 hu
  simp only [clsV, List.mem_cons, List.mem_nil_iff, or_false] at hu
  rcases hu with rfl | rfl | rfl | rfl
  · rfl
  · rfl
  · exact h x hx
  · rfl
theorem oneS (l : List Src) : ∀ u ∈ flatS l, u.oneCell' = true := by
  intro u hu
  obtain ⟨x, hx, hu⟩ := List.mem_flatMap.1 hu
  simp only [srcV, List.mem_cons, List.mem_nil_iff, or_false] at hu
  rcases hu with rfl | rfl | rfl | rfl <;> rfl
theorem flatC_app (l m : List (Cls × Value)) : flatC (l ++ m) = flatC l ++ flatC m := by unfold flatC; simp
theorem flatS_app (l m : List Src) : flatS (l ++ m) = flatS l ++ flatS m := by unfold flatS; simp
def ClsG (B : Nat) (v : Value) (cs : List Cls) (w : World) : Prop := ∃ cl : List (Cls × Value), cl.map (·.1) = cs ∧ w.ownsRow B RCT 4 v cl.length (flatC cl) ∧ ∀ x ∈ cl, Strs B x.2 x.1.fields w
def SrcG (B : Nat) (v : Value) (ss : List Src) (w : World) : Prop := w.ownsRow B RST 4 v ss.length (flatS ss)
theorem ClsG.below {B : Nat} {v : Value} {cs : List Cls} {w w' : World} (h : ClsG B v cs w) (hb : Below w.heap.size w w') : ClsG B v cs w' := by
  obtain ⟨cl, h1, h2, h3⟩ := h
  exact ⟨cl, h1, own_below h2 hb, fun x hx => own_below (h3 x hx) hb⟩
theorem SrcG.below {B : Nat} {v : Value} {ss : List Src} {w w' : World} (h : SrcG B v ss w) (hb : Below w.heap.size w w') : SrcG B v ss w' := own_below h hb
theorem ClsG.set_ {B T k : Nat} {v : Value} {cs : List Cls} {w : World} {cells : Array Value} (h : ClsG B v cs w) (hk : Blk T k cells w) (h1 : RCT ≠ T) (h2 : ST ≠ T) (i : Nat) (u : Value) : ClsG B v cs (w.setCell ⟨k, i, none⟩ u) := by
  obtain ⟨cl, a1, a2, a3⟩ := h
  exact ⟨cl, a1, own_set a2 hk h1 i u, fun x hx => own_set (a3 x hx) hk h2 i u⟩
theorem SrcG.set_ {B T k : Nat} {v : Value} {ss : List Src} {w : World} {cells : Array Value} (h : SrcG B v ss w) (hk : Blk T k cells w) (h1 : RST ≠ T) (i : Nat) (u : Value) : SrcG B v ss (w.setCell ⟨k, i, none⟩ u) := own_set h hk h1 i u
theorem told_at {B : Nat} {cv sv : Value} {cs : List Cls} {ss : List Src} {w : World} (hu : Units B cv sv cs ss w) (hf : cs.length ≤ 1099511627 ∧ ss.length ≤ 1099511627 ∧ ∀ c ∈ cs, c.fields.length ≤ 1099511627) :
    ∀ v, Below w.heap.size w v → Calls Tryz.prog 10 #[.agg #[cv, sv]] v (fun e v' => Below w.heap.size w v' ∧ Below v.heap.size v v' ∧ ∃ co nc cc so ns sc, e = .returned (.agg #[.slice co nc cc, .slice so ns sc]) ∧ ClsG w.heap.size (.slice co nc cc) cs v' ∧ SrcG w.heap.size (.slice so ns sc) ss v') := by
  intro v hv
  refine (told_any (hu.below hv) hf.1 hf.2.1 hf.2.2).mono ?_
  rintro e v' ⟨hb, c, s, rfl, cl, h1, h2, h3, h4⟩
  obtain ⟨co, cc, rfl, -⟩ := own_slice h2
  obtain ⟨so, sc, rfl, -⟩ := own_slice h4
  exact ⟨hv.trans (hb.mono hv.size), hb, _, _, _, _, _, _, rfl, ⟨cl, h1, own_mono h2 hv.size, fun x hx => own_mono (h3 x hx) hv.size⟩, own_mono h4 hv.size⟩
section
variable {ops : Array Oper} {o : Oper} {a : Act} {w W : World} {K : Act → World → Prop} {Q : Exit → Act → World → Prop} {E' : Prop}
theorem join_cls (hg : o.guard = none) (s x : Operand) (hop : o.op = Op.call { callee := Callee.builtin Builtin.append, args := #[s, x], argTypes := #[30, 30] }) {c c2 : Value} {cs cs2 : List Cls}
    (hs : a.eval s = c) (hx : a.eval x = c2) (h1 : ClsG W.heap.size c cs w) (h2 : ClsG W.heap.size c2 cs2 w) (hn : cs.length + cs2.length ≤ 1099511627) (hW : Below W.heap.size W w)
    (hK : ∀ jo jn jc w', Below W.heap.size W w' → (∀ v ss, SrcG W.heap.size v ss w → SrcG W.heap.size v ss w') → (∀ T k d, T ≠ RCT → Blk T k d w → Blk T k d w') → w.heap.size ≤ w'.heap.size → ClsG W.heap.size (.slice jo jn jc) (cs ++ cs2) w' → K (a.put o.dst (.slice jo jn jc)) w') :
    if Region.wanted o (yielded ops a.tmps) = true then Oper.wp Tryz.prog o a w K Q else E' := by
  obtain ⟨l, hl, ho, hf⟩ := h1
  obtain ⟨l2, hl2, ho2, hf2⟩ := h2
  obtain ⟨ic, hic, hc0, hc1, hc2⟩ := info_parts (show (Tryz.prog.info? RCT).map (fun i => (i.zero, i.size, i.bytes)) = some (some (.agg #[.string ⟨#[]⟩, .string ⟨#[]⟩, .slice none 0 0, .int .i64 0]), 4, 64) by kernel_rfl)
  have tsc : Tryz.prog.underlying 30 = some (.slice RCT) := by kernel_rfl
  have e1 : cs.length = l.length := by rw [← hl, List.length_map]
  have e2 : cs2.length = l2.length := by rw [← hl2, List.length_map]
  refine step_join hg s x _ RCT hop tsc ic _ 4 64 hic hc0 hc1 hc2 rfl (by decide) ho hs hx ho2 (oneC l2 (fun x hx => ?_)) (by unfold maxLen; omega) (by omega) hW.size ?_
  · obtain ⟨ao, cc, e, _⟩ := own_slice (hf2 x hx)
    rw [e]; rfl
  · intro v' w' hown hgrow
    obtain ⟨jo, jc, rfl, -⟩ := own_slice hown
    refine hK _ _ _ w' (hW.grown hgrow hW.size (fun k hk => (ho.lt k hk).1)) (fun v ss h => own_grown h hgrow ho (by decide)) (fun T k d hT h => blk_grown h hgrow ho (fun e => hT e.symm)) hgrow.size ⟨l ++ l2, by rw [List.map_append, hl, hl2], by rw [flatC_app, List.length_append]; exact hown, fun x hx => ?_⟩
    rcases List.mem_append.1 hx with hx | hx
    · exact own_grown (hf x hx) hgrow ho (by decide)
    · exact own_grown (hf2 x hx) hgrow ho (by decide)
theorem join_src (hg : o.guard = none) (s x : Operand) (hop : o.op = Op.call { callee := Callee.builtin Builtin.append, args := #[s, x], argTypes := #[31, 31] }) {c c2 : Value} {ss ss2 : List Src}
    (hs : a.eval s = c) (hx : a.eval x = c2) (h1 : SrcG W.heap.size c ss w) (h2 : SrcG W.heap.size c2 ss2 w) (hn : ss.length + ss2.length ≤ 1099511627) (hW : Below W.heap.size W w)
    (hK : ∀ jo jn jc w', Below W.heap.size W w' → (∀ v cs, ClsG W.heap.size v cs w → ClsG W.heap.size v cs w') → (∀ T k d, T ≠ RST → Blk T k d w → Blk T k d w') → w.heap.size ≤ w'.heap.size → SrcG W.heap.size (.slice jo jn jc) (ss ++ ss2) w' → K (a.put o.dst (.slice jo jn jc)) w') :
    if Region.wanted o (yielded ops a.tmps) = true then Oper.wp Tryz.prog o a w K Q else E' := by
  obtain ⟨ic, hic, hc0, hc1, hc2⟩ := info_parts (show (Tryz.prog.info? RST).map (fun i => (i.zero, i.size, i.bytes)) = some (some (.agg #[.string ⟨#[]⟩, .bool false, .string ⟨#[]⟩, .int .i64 0]), 4, 48) by kernel_rfl)
  have tsc : Tryz.prog.underlying 31 = some (.slice RST) := by kernel_rfl
  refine step_join hg s x _ RST hop tsc ic _ 4 48 hic hc0 hc1 hc2 rfl (by decide) h1 hs hx h2 (oneS ss2) (by unfold maxLen; omega) (by omega) hW.size ?_
  intro v' w' hown hgrow
  obtain ⟨jo, jc, rfl, -⟩ := own_slice hown
  refine hK _ _ _ w' (hW.grown hgrow hW.size (fun k hk => (World.ownsRow.lt h1 k hk).1)) (fun v cs h => ?_) (fun T k d hT h => blk_grown h hgrow h1 (fun e => hT e.symm)) hgrow.size (by unfold SrcG; rw [flatS_app, List.length_append]; exact hown)
  obtain ⟨l, hl, ho, hf⟩ := h
  exact ⟨l, hl, own_grown ho hgrow h1 (by decide), fun x hx => own_grown (hf x hx) hgrow h1 (by decide)⟩
end
theorem field0 (co : Option Addr) (nc cc : Nat) (so : Option Addr) (ns sc : Nat) (w : World) : (Instr.field 33 (.agg #[.slice co nc cc, .slice so ns sc]) 0).run Tryz.prog w = .ok (.slice co nc cc) w := by kernel_rfl
theorem field1 (co : Option Addr) (nc cc : Nat) (so : Option Addr) (ns sc : Nat) (w : World) : (Instr.field 33 (.agg #[.slice co nc cc, .slice so ns sc]) 1).run Tryz.prog w = .ok (.slice so ns sc) w := by kernel_rfl
/-- One '!' at the end: a blank behind it. -/
theorem joinB (A : ByteArray) (h : A.data.toList.getLast? = some 33) : (A ++ ⟨#[32]⟩).data.toList = joinL A.data.toList := by
  unfold joinL
  rw [if_pos h]
  simp [ByteArray.data_append]
theorem last_at (A : ByteArray) (h : 0 < A.size) : A.data.toList.getLast? = some (A[A.size - 1]'(by omega)) := by
  rw [List.getLast?_eq_getElem?]
  exact List.getElem?_eq_getElem (show A.data.toList.length - 1 < A.data.toList.length by have : 0 < A.data.toList.length := h; omega)
theorem last_none (A : ByteArray) (h : A.size = 0) : joinL A.data.toList = A.data.toList := by
  unfold joinL
  have : A.data.toList = [] := List.eq_nil_of_length_eq_zero h
  rw [this]; rfl
end Ck
end Go.Proofs.YthdigbkcffihkaaGreatDoor
