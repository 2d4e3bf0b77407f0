/- A tree whose row lies in a block of its own, and the count at its first node's place; what the law TreeSame leans on. -/
import Derived.Test.YtfbhokdcnjekiaaGreatDoorTrSq
import Derived.Test.YtfbhokdcnjekiaaGreatDoorTrL0
set_option linter.unusedVariables false
namespace Go.Proofs.YtfbhokdcnjekiaaGreatDoor
open Go.RowKit
namespace Hd
/-- Three may come up. -/
theorem three {P : Program} {md : Region.Mode} {ops : Array Oper} {Q : Exit → Act → World → Prop} {S : World → Prop} (i j k : Nat) {o p q : Oper} {fuel : Nat} {listed : Array Bool} {a : Act} {w : World} (ho : ops[i]? = some o) (hp : ops[j]? = some p) (hq : ops[k]? = some q) (hr : Region.ready md ops listed = [i, j, k])
    (h : ∀ K' : Act → World → Prop, Shut (∀ a w, S w → (S w → wpE P md ops Q S fuel (listed.setIfInBounds i true) a w) → K' a w) → if Region.wanted o (yielded ops a.tmps) = true then Oper.wp P o a w K' Q else K' (a.put o.dst undef) w)
    (h2 : ∀ K' : Act → World → Prop, Shut (∀ a w, S w → (S w → wpE P md ops Q S fuel (listed.setIfInBounds j true) a w) → K' a w) → if Region.wanted p (yielded ops a.tmps) = true then Oper.wp P p a w K' Q else K' (a.put p.dst undef) w)
    (h3 : ∀ K' : Act → World → Prop, Shut (∀ a w, S w → (S w → wpE P md ops Q S fuel (listed.setIfInBounds k true) a w) → K' a w) → if Region.wanted q (yielded ops a.tmps) = true then Oper.wp P q a w K' Q else K' (a.put q.dst undef) w) : wpE P md ops Q S (fuel + 1) listed a w :=
  ⟨fun h0 => (by rw [hr] at h0; cases h0), fun m hm => by
    rw [hr] at hm
    rcases List.mem_cons.1 hm with rfl | hm
    · exact wpOp_step ho (fun K' hK => h K' (fun a w hS hW => hK a w ⟨fun _ => hS, hW hS⟩))
    · rcases List.mem_cons.1 hm with rfl | hm
      · exact wpOp_step hp (fun K' hK => h2 K' (fun a w hS hW => hK a w ⟨fun _ => hS, hW hS⟩))
      · obtain rfl := List.mem_singleton.1 hm
        exact wpOp_step hq (fun K' hK => h3 K' (fun a w hS hW => hK a w ⟨fun _ => hS, hW hS⟩))⟩
end Hd
namespace Tr
open Bs Sm
/-- A row of nodes in a block in which nothing lies that is within them. -/
def Sep (S : Nat → Prop) (w : World) (bv : Value) (l : List Nd) : Prop := ∃ (vl : VL) (a : Option Addr) (cap : Nat), bv = .slice a vl.length cap ∧ vl.length ≤ cap ∧ cap ≤ maxLen ∧ (a = none → cap = 0) ∧ vl.map (·.1) = l ∧
  (0 < vl.length → ∃ g, a = some ⟨g, 0, none⟩ ∧ S g ∧ g < w.heap.size ∧ (∀ i, w.frozen? ⟨g, i, none⟩ = false) ∧ (∀ i x, vl[i]? = some x → Row w g (0 + i * 6) x.1 x.2.1 x.2.2) ∧ ∀ x ∈ vl, Tree (fun b => S b ∧ b ≠ g) w x.2.1 x.1.kids ∧ Rd (fun b => S b ∧ b ≠ g) strV w x.2.2 x.1.names)
section
variable {S S' : Nat → Prop} {w w' : World} {bv : Value} {l : List Nd}
theorem Sep.kp (h : Sep S w bv l) (hk : Kp S w w') : Sep S w' bv l := by
  obtain ⟨vl, a, cap, h1, h2, h3, h4, h5, h6⟩ := h
  refine ⟨vl, a, cap, h1, h2, h3, h4, h5, fun hl => ?_⟩
  obtain ⟨g, k1, k2, k3, kf, k4, k5⟩ := h6 hl
  have hk' : Kp (fun b => S b ∧ b ≠ g) w w' := ⟨hk.1, fun b hb => hk.2 b hb.1⟩
  exact ⟨g, k1, k2, Nat.lt_of_lt_of_le k3 hk.1, fun i => (World.frozen?_of_block (hk.2 g k2 k3)).trans (kf i), fun i x hx => (k4 i x hx).kp (fun j => hk.cell k2 k3 j), fun x hx => ⟨(k5 x hx).1.kp hk', (k5 x hx).2.kp hk'⟩⟩
theorem Sep.mono (h : Sep S w bv l) (hs : ∀ b, S b → b < w.heap.size → S' b) : Sep S' w bv l := by
  obtain ⟨vl, a, cap, h1, h2, h3, h4, h5, h6⟩ := h
  refine ⟨vl, a, cap, h1, h2, h3, h4, h5, fun hl => ?_⟩
  obtain ⟨g, k1, k2, k3, kf, k4, k5⟩ := h6 hl
  exact ⟨g, k1, hs g k2 k3, k3, kf, k4, fun x hx => ⟨(k5 x hx).1.mono (fun b hb hl => ⟨hs b hb.1 hl, hb.2⟩), (k5 x hx).2.mono (fun b hb hl => ⟨hs b hb.1 hl, hb.2⟩)⟩⟩
theorem Sep.tree (h : Sep S w bv l) : Tree S w bv l := by
  obtain ⟨vl, a, cap, rfl, h2, h3, h4, rfl, h6⟩ := h
  refine .mk vl a cap h2 h3 h4 (fun hl => ?_) (fun x hx => ?_) (fun x hx => ?_)
  · obtain ⟨g, k1, k2, k3, kf, k4, k5⟩ := h6 hl
    exact ⟨g, 0, k1, k2, k3, k4⟩
  · obtain ⟨g, k1, k2, k3, kf, k4, k5⟩ := h6 (List.length_pos_of_mem hx)
    exact (k5 x hx).1.mono (fun b hb _ => hb.1)
  · obtain ⟨g, k1, k2, k3, kf, k4, k5⟩ := h6 (List.length_pos_of_mem hx)
    exact (k5 x hx).2.mono (fun b hb _ => hb.1)
/-- What is one's own is so. -/
theorem OwnT.sep {T B : Nat} (h : OwnT T B S w bv l) (hs : ∀ b, bv.ownBlock = some b → S b) : Sep S w bv l := by
  obtain ⟨vl, rfl, h2, h3⟩ := h
  have hlt := h2.lt
  have h0 := h2
  rcases h2.2 with ⟨rfl, hn⟩ | ⟨g, cap, cur, rfl, hb, hg, hnc, hcm, _⟩
  · obtain rfl : vl = [] := List.eq_nil_of_length_eq_zero hn
    exact ⟨[], none, 0, rfl, Nat.le_refl _, by unfold maxLen; omega, fun _ => rfl, rfl, fun h => by simp at h⟩
  · refine ⟨vl, _, cap, rfl, hnc, hcm, (fun h => by cases h), rfl, fun _ => ⟨g, rfl, hs g rfl, (hlt g rfl).2, fun i => by simp [World.frozen?, hg], fun i x hx => ?_, fun x hx => ?_⟩⟩
    · have H : ∀ j u, (ndC x.1 x.2.1 x.2.2)[j]? = some u → w.cell? ⟨g, 0 + i * 6 + j, none⟩ = some u := fun j u hj => by
        have hc := World.ownsRow.cells h0 (g := g) rfl (i * 6 + j) u (flatN_get vl i x j u hx hj)
        have e : (⟨g, 0, none⟩ : Addr).add (i * 6 + j) = ⟨g, 0 + i * 6 + j, none⟩ := by unfold Addr.add; split <;> simp_all
        rw [e] at hc
        exact hc
      exact ⟨H 0 _ rfl, H 1 _ rfl, H 2 _ rfl, H 3 _ rfl, H 4 _ rfl, H 5 _ rfl⟩
    · have hne : ∀ b, (S b ∧ (Value.slice (some ⟨g, 0, none⟩) vl.length cap).ownBlock ≠ some b) → S b ∧ b ≠ g := fun b hb => ⟨hb.1, fun e => hb.2 (by rw [e]; rfl)⟩
      exact ⟨(h3 x hx).1.mono (fun b hb _ => hne b hb), (h3 x hx).2.mono (fun b hb _ => hne b hb)⟩
end
/-- The node with another place. -/
def bump (a : Int) : Nd → Nd | .mk k s n l ns _ => .mk k s n l ns a
theorem bump_sameN (a : Int) (x : Nd) : sameN (bump a x) x = true := by
  cases x
  unfold sameN
  simp [bump, Nd.kind, Nd.name, Nd.num, Nd.kids, Nd.names, sameL_refl]
theorem bump_sameL (a : Int) (x : Nd) (r : List Nd) : sameL (bump a x :: r) (x :: r) = true := by
  rw [sameL_cons, bump_sameN, sameL_refl]
  rfl
theorem set_far (w : World) (g j : Nat) (z : Value) {b i : Nat} (h : ¬ (b = g ∧ i = j)) : (w.setCell ⟨g, j, none⟩ z).cell? ⟨b, i, none⟩ = w.cell? ⟨b, i, none⟩ :=
  World.cell?_setCell_other _ _ _ _ (by intro e; simp only [Addr.mk.injEq] at e; exact h ⟨by omega, by omega⟩)
theorem set_near {w : World} {g j : Nat} {u : Value} (z : Value) (h : w.cell? ⟨g, j, none⟩ = some u) : (w.setCell ⟨g, j, none⟩ z).cell? ⟨g, j, none⟩ = some z := World.cell?_setCell_same _ _ _ h
theorem cell_ne {w : World} {b i g j : Nat} {u v z : Value} (h : w.cell? ⟨b, i, none⟩ = some u) (hg : w.cell? ⟨g, j, none⟩ = some v) (hn : u ≠ v) : (w.setCell ⟨g, j, none⟩ z).cell? ⟨b, i, none⟩ = some u := by
  have hne : ¬ (b = g ∧ i = j) := fun ⟨e1, e2⟩ => by subst e1; subst e2; rw [h] at hg; cases hg; exact hn rfl
  rw [← h]
  exact set_far w g j z hne
/-- Texts stay where a number is stored anew. -/
theorem Rd.int {S : Nat → Prop} {w : World} {v : Value} {l : List Bytes} {g j : Nat} {a : Int} {z : Value} (h : Rd S strV w v l) (hg : w.cell? ⟨g, j, none⟩ = some (.int .i64 a)) : Rd S strV (w.setCell ⟨g, j, none⟩ z) v l := by
  obtain ⟨a0, cap, h1, h2, h3, h5, h4⟩ := h
  refine ⟨a0, cap, h1, h2, h3, h5, fun hl => ?_⟩
  obtain ⟨b, off, k1, k0, k2, k3⟩ := h4 hl
  exact ⟨b, off, k1, k0, by simpa [World.setCell] using k2, fun i x hx => cell_ne (k3 i x hx) hg (fun e => by cases e)⟩
/-- The first node's place is stored anew. -/
theorem Sep.bumped {S : Nat → Prop} {w : World} {g n cap : Nat} {y : Nd} {r : List Nd} (h : Sep S w (.slice (some ⟨g, 0, none⟩) n cap) (y :: r)) (a : Int) :
    Tree S (w.setCell ⟨g, 5, none⟩ (.int .i64 a)) (.slice (some ⟨g, 0, none⟩) n cap) (bump a y :: r) := by
  obtain ⟨vl, a0, cap0, h1, h2, h3, h4, h5, h6⟩ := h
  cases h1
  cases vl with
  | nil => cases h5
  | cons v0 vr =>
    obtain ⟨x, kv, nv⟩ := v0
    simp only [List.map_cons, List.cons.injEq] at h5
    obtain ⟨rfl, rfl⟩ := h5
    obtain ⟨g', k1, k2, k3, kf, k4, k5⟩ := h6 (by simp)
    cases k1
    have hsz : (w.setCell ⟨g, 5, none⟩ (.int .i64 a)).heap.size = w.heap.size := by simp [World.setCell]
    have hkp : Kp (fun b => S b ∧ b ≠ g) w (w.setCell ⟨g, 5, none⟩ (.int .i64 a)) := ⟨Nat.le_of_eq hsz.symm, fun b hb _ => Below.heap_setCell w ⟨g, 5, none⟩ _ b hb.2⟩
    have hfar : ∀ i, i ≠ 5 → (w.setCell ⟨g, 5, none⟩ (.int .i64 a)).cell? ⟨g, i, none⟩ = w.cell? ⟨g, i, none⟩ := fun i hi => set_far w g 5 _ (fun ⟨_, e⟩ => hi e)
    have e : bump a x :: vr.map (·.1) = (((bump a x, kv, nv) :: vr : VL)).map (·.1) := rfl
    have e2 : (((x, kv, nv) :: vr : VL)).length = (((bump a x, kv, nv) :: vr : VL)).length := rfl
    rw [e, e2]
    have hb : ∀ x : Nd, (bump a x).kids = x.kids ∧ (bump a x).names = x.names := fun x => by cases x; exact ⟨rfl, rfl⟩
    refine .mk _ _ cap (by simpa using h2) h3 h4 (fun _ => ⟨g, 0, rfl, k2, by rw [hsz]; exact k3, fun i z hz => ?_⟩) (fun z hz => ?_) (fun z hz => ?_)
    · cases i with
      | zero =>
        have hz : (bump a x, kv, nv) = z := by simpa using hz
        subst hz
        obtain ⟨r0, r1, r2, r3, r4, r5⟩ := k4 0 (x, kv, nv) rfl
        have r5' : (w.setCell ⟨g, 5, none⟩ (.int .i64 a)).cell? ⟨g, 5, none⟩ = some (.int .i64 a) := set_near _ r5
        cases x
        exact ⟨(hfar _ (by omega)).trans r0, (hfar _ (by omega)).trans r1, (hfar _ (by omega)).trans r2, (hfar _ (by omega)).trans r3, (hfar _ (by omega)).trans r4, r5'⟩
      | succ i =>
        obtain ⟨r0, r1, r2, r3, r4, r5⟩ := k4 (i + 1) z (by simpa using hz)
        exact ⟨(hfar _ (by omega)).trans r0, (hfar _ (by omega)).trans r1, (hfar _ (by omega)).trans r2, (hfar _ (by omega)).trans r3, (hfar _ (by omega)).trans r4, (hfar _ (by omega)).trans r5⟩
    · rcases List.mem_cons.1 hz with rfl | hz
      · rw [(hb x).1]
        exact ((k5 _ (List.mem_cons_self ..)).1.kp hkp).mono (fun b hb _ => hb.1)
      · exact ((k5 z (List.mem_cons_of_mem _ hz)).1.kp hkp).mono (fun b hb _ => hb.1)
    · rcases List.mem_cons.1 hz with rfl | hz
      · rw [(hb x).2]
        exact ((k5 _ (List.mem_cons_self ..)).2.kp hkp).mono (fun b hb _ => hb.1)
      · exact ((k5 z (List.mem_cons_of_mem _ hz)).2.kp hkp).mono (fun b hb _ => hb.1)
/-- The first node's place. -/
theorem Sep.head {S : Nat → Prop} {w : World} {a : Option Addr} {n cap : Nat} {y : Nd} {r : List Nd} (h : Sep S w (.slice a n cap) (y :: r)) :
    ∃ g, a = some ⟨g, 0, none⟩ ∧ S g ∧ g < w.heap.size ∧ (∀ i, w.frozen? ⟨g, i, none⟩ = false) ∧ w.cell? ⟨g, 5, none⟩ = some (.int .i64 y.at_) ∧ 0 < n := by
  obtain ⟨vl, a0, cap0, h1, h2, h3, h4, h5, h6⟩ := h
  cases h1
  cases vl with
  | nil => cases h5
  | cons v0 vr =>
    simp only [List.map_cons, List.cons.injEq] at h5
    obtain ⟨rfl, rfl⟩ := h5
    obtain ⟨g, k1, k2, k3, kf, k4, k5⟩ := h6 (by simp)
    obtain ⟨-, -, -, -, -, r5⟩ := k4 0 v0 rfl
    exact ⟨g, k1, k2, k3, kf, r5, by simp⟩
/-- A method's parts in memory, its row in a block of its own. -/
structure XAt (S : Nat → Prop) (w : World) (m : Mt) (pv tv bv : Value) : Prop where
  params : Rd S strV w pv m.params
  temps : Rd S strV w tv m.temps
  body : Sep S w bv m.body
section
variable {S S' : Nat → Prop} {w w' : World} {m : Mt} {pv tv bv : Value}
theorem XAt.kp (h : XAt S w m pv tv bv) (hk : Kp S w w') : XAt S w' m pv tv bv := ⟨h.params.kp hk, h.temps.kp hk, h.body.kp hk⟩
theorem XAt.bel (h : XAt S w m pv tv bv) (hb : Below w.heap.size w w') : XAt S w' m pv tv bv := h.kp (Kp.of hb)
theorem XAt.mono (h : XAt S w m pv tv bv) (hs : ∀ b, S b → b < w.heap.size → S' b) : XAt S' w m pv tv bv := ⟨h.params.mono hs, h.temps.mono hs, h.body.mono hs⟩
theorem XAt.two {k : Nat} (h : XAt S w m pv tv bv) (ht : Two k k w w') (hS : ∀ b, S b → b ≠ k) : XAt S w' m pv tv bv := h.kp ⟨Nat.le_of_eq ht.size.symm, fun b hb _ => ht.block b (hS b hb) (hS b hb)⟩
theorem XAt.mt (h : XAt S w m pv tv bv) : MtAt (fun _ => True) w m pv tv bv := ⟨h.params.mono (fun _ _ _ => trivial), h.temps.mono (fun _ _ _ => trivial), h.body.tree.mono (fun _ _ _ => trivial)⟩
end
theorem own_sep (M : Mt) (hm : Mild M.body) (h1 : M.params.length ≤ 15) (h2 : M.temps.length ≤ 15) (pv tv bv : Value) (v : World) (h : MtAt (fun _ => True) v M pv tv bv) :
    Calls Tryz.prog 9 #[mtV M pv tv bv] v (fun e v' => Below v.heap.size v v' ∧ ∃ xa xc ya yc za zc, e = .returned (.agg #[.string ⟨M.name.toArray⟩, .slice xa M.params.length xc, .slice ya M.temps.length yc, .int .i64 M.prim, .slice za M.body.length zc, .int .i64 M.at_]) ∧
      XAt (fun b => v.heap.size ≤ b ∧ b < v'.heap.size) v' M (.slice xa M.params.length xc) (.slice ya M.temps.length yc) (.slice za M.body.length zc)) := by
  refine (own_any M hm h1 h2 pv tv bv v h).mono ?_
  rintro e v' ⟨hb, pv', tv', bv', rfl, hp, ht, hbd⟩
  have hlo : ∀ g, bv'.ownBlock = some g → v.heap.size ≤ g := fun g hg => by obtain ⟨vl, -, ho, -⟩ := hbd; exact (ho.lt g hg).1
  have hx : XAt (fun b => v.heap.size ≤ b ∧ b < v'.heap.size) v' M pv' tv' bv' := ⟨hp.mono (fun b hb hl => ⟨hb, hl⟩), ht.mono (fun b hb hl => ⟨hb, hl⟩), (hbd.sep (fun b hb => hlo b hb)).mono (fun b hb hl => ⟨hb, hl⟩)⟩
  obtain ⟨xa, xc, ya, yc, za, zc, rfl, rfl, rfl⟩ := hx.mt.form
  exact ⟨hb, xa, xc, ya, yc, za, zc, rfl, hx⟩
/-- What All returns can be held against each node. -/
theorem own_lrd {T B : Nat} {N : Nat → Prop} {w : World} {v : Value} {vl : VL} {L : List Nd} (h : w.ownsRow B T 6 v vl.length (flatN vl)) (hvl : vl.map (·.1) = L) (hN : ∀ b, N b → w.heap.size ≤ b) : LRd N w v L := by
  subst hvl
  have hlt := h.lt
  have h0 := h
  rcases h.2 with ⟨rfl, hn⟩ | ⟨g, cap, cur, rfl, hb, hg, hnc, hcm, _⟩
  · obtain rfl : vl = [] := List.eq_nil_of_length_eq_zero hn
    exact ⟨none, 0, rfl, fun i x hx => by simp at hx⟩
  · refine ⟨_, cap, by rw [List.length_map], fun i x hx => ⟨g, 0, rfl, (hlt g rfl).2, fun hn => ?_, ?_⟩⟩
    · have := hN g hn
      have := (hlt g rfl).2
      omega
    · rw [List.getElem?_map] at hx
      obtain ⟨y, hy, rfl⟩ := Option.map_eq_some_iff.1 hx
      have H : ∀ j u, (ndC y.1 y.2.1 y.2.2)[j]? = some u → w.cell? ⟨g, 0 + i * 6 + j, none⟩ = some u := fun j u hj => by
        have hc := World.ownsRow.cells h0 (g := g) rfl (i * 6 + j) u (flatN_get vl i y j u hy hj)
        have e : (⟨g, 0, none⟩ : Addr).add (i * 6 + j) = ⟨g, 0 + i * 6 + j, none⟩ := by unfold Addr.add; split <;> simp_all
        rw [e] at hc
        exact hc
      exact ⟨H 0 _ rfl, H 1 _ rfl, H 2 _ rfl⟩
theorem bump_sameM (A : Mt) (a : Int) (y : Nd) (r : List Nd) (h : A.body = y :: r) : sameM { A with body := bump a y :: r } A = true := by
  unfold sameM
  rw [h, bump_sameL]
  simp
theorem few_le200 (l : List Nd) (d : Nat) : cntL (fewL d 200 l).1 ≤ 200 := by have := few_cnt l d 200; omega
theorem XAt.but {X S S' : Nat → Prop} {w w' : World} {m : Mt} {pv tv bv : Value} (h : XAt S w m pv tv bv) (hb : But X w w') (hS : ∀ b, S b → b < w.heap.size → ¬ X b ∧ S' b) : XAt S' w' m pv tv bv :=
  ((h.mono (S' := fun b => ¬ X b ∧ S' b) hS).kp ⟨hb.size, fun b hx hl => hb.block b hl hx.1⟩).mono (fun b hb _ => hb.2)
theorem MtAt.but {X S S' : Nat → Prop} {w w' : World} {m : Mt} {pv tv bv : Value} (h : MtAt S w m pv tv bv) (hb : But X w w') (hS : ∀ b, S b → b < w.heap.size → ¬ X b ∧ S' b) : MtAt S' w' m pv tv bv :=
  ((h.mono (S' := fun b => ¬ X b ∧ S' b) hS).kp ⟨hb.size, fun b hx hl => hb.block b hl hx.1⟩).mono (fun b hb _ => hb.2)
end Tr
end Go.Proofs.YtfbhokdcnjekiaaGreatDoor
