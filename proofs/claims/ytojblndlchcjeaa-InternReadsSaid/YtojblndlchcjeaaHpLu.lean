/- Chapter 08: what stays of the memory while a town is laid: blocks, maps, rows. No walk. -/
import Derived.Test.YtojblndlchcjeaaHpLt
import Derived.Test.YtojblndlchcjeaaHpTy
set_option linter.unusedVariables false
namespace Go.Proofs.Ytojblndlchcjeaa
open Go.RowKit
open Go.Maps
namespace Hp
open Bs Sm
/-- A thing that stays: its block, the type of its cells (none: a map), what is so of it. -/
structure Th where
  ft : Option Nat
  ty : Option Nat
  P : World → Prop
  kept : ∀ w w' : World, (∀ b, ft = some b → w'.heap[b]? = w.heap[b]?) → P w → P w'
  has : ∀ w : World, P w → ∀ b, ft = some b → ∃ o, w.heap[b]? = some o ∧ (∀ cs T z, o = .cells cs T z → ty = some T) ∧ ((∀ cs T z, o ≠ .cells cs T z) → ty = none)
def thB (T k : Nat) (cs : Array Value) : Th where
  ft := some k
  ty := some T
  P := Blk T k cs
  kept := fun w w' h hp => (h k rfl).trans hp
  has := fun w hp b hb => by
    cases hb
    exact ⟨_, hp, fun cs T z e => by cases e; rfl, fun h => absurd rfl (h _ _ _)⟩
def thR (B e n : Nat) (v : Value) (xs : List Value) : Th where
  ft := v.ownBlock
  ty := some e
  P := fun w => w.ownsRow B e 1 v n xs
  kept := fun w w' h hp => by
    obtain ⟨p, q⟩ := hp
    refine ⟨p, ?_⟩
    rcases q with hn | ⟨g, cap, cur, rfl, hb, hg, rest⟩
    · exact .inl hn
    · exact .inr ⟨g, cap, cur, rfl, hb, (h g rfl).trans hg, rest⟩
  has := fun w hp b hb => by
    obtain ⟨p, q⟩ := hp
    rcases q with ⟨rfl, _⟩ | ⟨g, cap, cur, rfl, hb', hg, rest⟩
    · cases hb
    · have hb : some g = some b := hb
      cases hb
      exact ⟨_, hg, fun cs T z e => by cases e; rfl, fun h => absurd rfl (h _ _ _)⟩
def thM (et : Nat) (q : IntKind) (b n : Nat) (f : Bts → Int) (g : Bts → Bool) : Th where
  ft := some b
  ty := none
  P := MapS Try.prog 9 et q b n f g
  kept := fun w w' h hp => hp.block (h b rfl)
  has := fun w hp b' hb => by
    cases hb
    obtain ⟨D, ⟨es, c, h1, h3⟩, h2⟩ := hp
    exact ⟨_, h1, fun cs T z e => (by cases e), fun _ => rfl⟩
/-- What stays. -/
def Sta (B : Nat) (w0 w : World) (l : List Th) : Prop := Below B w0 w ∧ B ≤ w0.heap.size ∧ ∀ t ∈ l, t.P w
def noT (T : Nat) (l : List Th) : Bool := l.all fun t => t.ty != some T
section
variable {B : Nat} {w0 w w' : World} {l : List Th} {t t1 t2 t3 t4 t5 t6 t7 t8 : Th}
theorem Sta.get (h : Sta B w0 w l) (ht : t ∈ l) : t.P w := h.2.2 t ht
theorem Sta.p0 (h : Sta B w0 w (t :: l)) : t.P w := h.2.2 t (List.mem_cons_self ..)
theorem Sta.tl (h : Sta B w0 w (t :: l)) : Sta B w0 w l := ⟨h.1, h.2.1, fun x hx => h.2.2 x (List.mem_cons_of_mem _ hx)⟩
theorem Sta.cons (h : Sta B w0 w l) (ht : t.P w) : Sta B w0 w (t :: l) := ⟨h.1, h.2.1, fun x hx => by
  rcases List.mem_cons.1 hx with rfl | hx
  · exact ht
  · exact h.2.2 x hx⟩
theorem Sta.sub {l' : List Th} (h : Sta B w0 w l) (hs : ∀ x ∈ l', x ∈ l) : Sta B w0 w l' := ⟨h.1, h.2.1, fun x hx => h.2.2 x (hs x hx)⟩
theorem Sta.kept (h : Sta B w0 w l) (hb : Below B w w') (hk : ∀ x ∈ l, ∀ b, x.ft = some b → w'.heap[b]? = w.heap[b]?) : Sta B w0 w' l := ⟨h.1.trans hb, h.2.1, fun x hx => x.kept w w' (hk x hx) (h.2.2 x hx)⟩
theorem Sta.lt (h : Sta B w0 w l) (ht : t ∈ l) (b : Nat) (hb : t.ft = some b) : b < w.heap.size := by
  obtain ⟨o, ho, -⟩ := t.has w (h.2.2 t ht) b hb
  exact (Array.getElem?_eq_some_iff.1 ho).1
theorem Sta.bel_ (h : Sta B w0 w l) (hb : Below w.heap.size w w') : Sta B w0 w' l :=
  h.kept (hb.mono (Nat.le_trans h.2.1 h.1.size)) fun x hx b hf => hb.block b (h.lt hx b hf)
theorem noT_ne {T : Nat} (hT : noT T l = true) (ht : t ∈ l) : t.ty ≠ some T := by
  unfold noT at hT
  rw [List.all_eq_true] at hT
  simpa using hT t ht
theorem Sta.ne_cells (h : Sta B w0 w l) {T k : Nat} {cs : Array Value} {z : Nat × Nat} (hT : noT T l = true) (ht : t ∈ l) (hk : w.heap[k]? = some (.cells cs T z)) : t.ft ≠ some k := by
  intro e
  obtain ⟨o, ho, h1, -⟩ := t.has w (h.2.2 t ht) k e
  rw [hk] at ho
  cases ho
  exact noT_ne hT ht (h1 cs T z rfl)
theorem Sta.tf {M : Nat → Prop} (h : Sta B w0 w l) (hf : Tf B M w w') (h1 : noT TT l = true) (h2 : noT OT l = true) (hM : ∀ x ∈ l, ∀ b, x.ft = some b → ¬ M b) : Sta B w0 w' l :=
  h.kept (hf.bel' (Nat.le_refl _) (Nat.le_trans h.2.1 h.1.size)) fun x hx b hb => hf.block b (h.lt hx b hb) fun ⟨_, h3⟩ => by
    rcases h3 with ⟨cs, T', z, h4, rfl | rfl⟩ | h3
    · exact h.ne_cells h1 hx h4 hb
    · exact h.ne_cells h2 hx h4 hb
    · exact hM x hx b hb h3
theorem Sta.tf0 (h : Sta B w0 w l) (hf : Tf B (fun _ => False) w w') (h1 : noT TT l = true) (h2 : noT OT l = true) : Sta B w0 w' l := h.tf hf h1 h2 fun _ _ _ _ h => h
theorem Sta.set {T k i : Nat} {cs : Array Value} {u : Value} (h : Sta B w0 w l) (hk : Blk T k cs w) (hB : B ≤ k) (hT : noT T l = true) : Sta B w0 (w.setCell ⟨k, i, none⟩ u) l :=
  h.kept (Below.setCell (Below.refl _ _) hB u) fun x hx b hb => Below.heap_setCell w ⟨k, i, none⟩ u b fun e => h.ne_cells hT hx hk (by rw [hb]; exact congrArg some e)
theorem Sta.grown {e size n : Nat} {v : Value} {xs : List Value} (h : Sta B w0 w l) (hg : w.grownBy w' v.ownBlock) (ho : w.ownsRow B e size v n xs) (hT : noT e l = true) : Sta B w0 w' l :=
  h.kept ((Below.refl B w).grown hg (Nat.le_trans h.2.1 h.1.size) fun k hk => (World.ownsRow.lt ho k hk).1) fun x hx b hb => hg.block b (h.lt hx b hb) fun e' => by
    rcases ho.2 with ⟨rfl, hn⟩ | ⟨g, cap, cur, rfl, k1, k2, -⟩
    · cases e'
    · have e' : some b = some g := e'
      cases e'
      exact h.ne_cells hT hx k2 hb
theorem Sta.mapped {κ α : Type} {P : Program} {kt et : TypeId} {kl : κ → Lit} {ok : κ → Prop} {el : α → Lit} {z : α} {f : κ → α} {g : κ → Bool} {b n : Nat} (h : Sta B w0 w l) (hm : MapOf P kt et kl ok el z b n f g w) (hg : w.grownBy w' (some b)) (hB : B ≤ b) (hT : ∀ x ∈ l, x.ty = none → x.ft ≠ some b) : Sta B w0 w' l :=
  h.kept ((Below.refl B w).grown hg (Nat.le_trans h.2.1 h.1.size) fun k hk => by cases hk; exact hB) fun x hx b' hb => hg.block b' (h.lt hx b' hb) fun e => by
    cases e
    obtain ⟨o, ho, -, h1⟩ := x.has w (h.2.2 x hx) b hb
    obtain ⟨D, ⟨es, c, h2, -⟩, -⟩ := hm
    rw [h2] at ho
    cases ho
    exact hT x hx (h1 fun cs T z e => by cases e) hb
end
/-! ### Formats -/
def fmV (sup flds : List Int) (j : Nat) : Nat := (fmtsL sup flds (j + 1)).getD j 0
/-- The formats while the k-th class is looked at. -/
def FmtOk (n : Nat) (sup flds : List Int) (k : Nat) (F : Bts → Int) : Prop := ∀ j, j < NN n → F (nmL n j) = ((if j < k then fmV sup flds j else fmt0 j : Nat) : Int)
/-- The class's format, first as it is taken from above. -/
def fm1 (sup flds : List Int) (k : Nat) : Nat := if fmt0 k = 0 ∧ 0 < k ∧ upL sup k ≠ 0 then fmV sup flds (upL sup k) else fmt0 k
theorem fmts_get (sup flds : List Int) : ∀ k j, j < k → (fmtsL sup flds k).getD j 0 = fmV sup flds j
  | 0, j, h => by omega
  | k + 1, j, h => by
    by_cases e : j = k
    · subst e; rfl
    · have hj : j < k := by omega
      simp only [fmtsL]
      rw [List.getD_eq_getElem?_getD, List.getElem?_append_left (by rw [fmts_len]; exact hj), ← List.getD_eq_getElem?_getD]
      exact fmts_get sup flds k j hj
theorem fmV_eq (sup flds : List Int) (k : Nat) : fmV sup flds k = if 16 ≤ k ∧ k - 16 < flds.length ∧ fm1 sup flds k % 4 = 0 then fm1 sup flds k + 4 * (flds.getD (k - 16) 0 % 4).toNat else fm1 sup flds k := by
  have e : (if fmt0 k = 0 ∧ 0 < k ∧ upL sup k ≠ 0 then (fmtsL sup flds k).getD (upL sup k) 0 else fmt0 k) = fm1 sup flds k := by
    unfold fm1
    by_cases h : fmt0 k = 0 ∧ 0 < k ∧ upL sup k ≠ 0
    · rw [if_pos h, if_pos h, fmts_get sup flds k _ (upL_lt sup k h.2.1)]
    · rw [if_neg h, if_neg h]
  unfold fmV
  simp only [fmtsL]
  rw [e, List.getD_eq_getElem?_getD, List.getElem?_append_right (by rw [fmts_len]; exact Nat.le_refl _), fmts_len, Nat.sub_self]
  rfl
theorem fmV_le (sup flds : List Int) (k : Nat) (hk : k ≤ 22) : fmV sup flds k ≤ 300 := by
  have := fmt_get sup flds k
  unfold fmV; omega
theorem FmtOk.step {n k : Nat} {sup flds : List Int} {F G : Bts → Int} (hn : n ≤ 6) (hk : k < NN n) (h : FmtOk n sup flds k F) (h1 : G (nmL n k) = (fmV sup flds k : Nat)) (h2 : ∀ x, x ≠ nmL n k → G x = F x) : FmtOk n sup flds (k + 1) G := by
  intro j hj
  by_cases e : j = k
  · subst e
    rw [h1, if_pos (Nat.lt_succ_self _)]
  · rw [h2 _ (fun e' => e ((nm_facts n hn j hj).2.2 k hk e')), h j hj]
    by_cases hjk : j < k
    · rw [if_pos hjk, if_pos (by omega)]
    · rw [if_neg hjk, if_neg (by omega)]
end Hp
end Go.Proofs.Ytojblndlchcjeaa
