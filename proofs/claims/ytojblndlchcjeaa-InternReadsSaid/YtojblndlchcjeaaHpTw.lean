/- Chapter 08: a town's memory while it is laid: its block, its list of objects, its map. No walk. -/
import Derived.Test.YtojblndlchcjeaaHpRe3
import Derived.Test.YtojblndlchcjeaaHpMap
import Derived.Test.YtojblndlchcjeaaHpRow
import Derived.Laws.OwnMore
set_option linter.unusedVariables false
namespace Go.Proofs.Ytojblndlchcjeaa
open Go.RowKit
namespace Hp
open Bs Sm
abbrev TT : Nat := 103
abbrev YT : Nat := 5
abbrev ST1 : Nat := 9
def OwnY (B : Nat) (w : World) (v : Value) (L : List UInt8) : Prop := w.ownsRow B YT 1 v L.length (L.map byV)
theorem OwnY.bel {B : Nat} {w w' : World} {v : Value} {L : List UInt8} (h : OwnY B w v L) (hb : Below w.heap.size w w') : OwnY B w' v L := own_below h hb
theorem OwnY.form {B : Nat} {w : World} {v : Value} {L : List UInt8} (h : OwnY B w v L) : ∃ a c, v = .slice a L.length c := by
  obtain ⟨a, c, e, -⟩ := own_slice h
  exact ⟨a, c, e⟩
def flatO (vl : List OV) : List Value := vl.flatMap obC
theorem flatO_snoc (vl : List OV) (x : OV) : flatO (vl ++ [x]) = flatO vl ++ obC x := by unfold flatO; simp
theorem flatO_get : ∀ (vl : List OV) (i : Nat) (x : OV) (j : Nat) (u : Value), vl[i]? = some x → (obC x)[j]? = some u → (flatO vl)[i * 8 + j]? = some u
  | [], i, x, j, u, h, _ => by simp at h
  | y :: vl, 0, x, j, u, h, hj => by
    simp at h
    subst h
    have e : flatO (y :: vl) = obC y ++ flatO vl := rfl
    have hl : (obC y).length = 8 := rfl
    have := (List.getElem?_eq_some_iff.1 hj).1
    rw [e, Nat.zero_mul, Nat.zero_add, List.getElem?_append_left (by omega)]
    exact hj
  | y :: vl, i + 1, x, j, u, h, hj => by
    have e : flatO (y :: vl) = obC y ++ flatO vl := rfl
    have hl : (obC y).length = 8 := rfl
    rw [e, List.getElem?_append_right (by omega), hl, show (i + 1) * 8 + j - 8 = i * 8 + j by omega]
    exact flatO_get vl i x j u (by simpa using h) hj
theorem flatO_set : ∀ (vl : List OV) (i : Nat) (x y : OV) (j : Nat) (u : Value), vl[i]? = some x → j < 8 → (obC x).set j u = obC y → (flatO vl).set (i * 8 + j) u = flatO (vl.set i y)
  | [], i, x, y, j, u, h, _, _ => by simp at h
  | z :: vl, 0, x, y, j, u, h, hj, he => by
    simp at h
    subst h
    have e : ∀ a, flatO (a :: vl) = obC a ++ flatO vl := fun _ => rfl
    have hl : (obC z).length = 8 := rfl
    rw [e, Nat.zero_mul, Nat.zero_add, List.set_append_left _ _ (by omega), he, List.set_cons_zero, e]
  | z :: vl, i + 1, x, y, j, u, h, hj, he => by
    have e : ∀ l, flatO (z :: l) = obC z ++ flatO l := fun _ => rfl
    have hl : (obC z).length = 8 := rfl
    rw [e, List.set_append_right _ _ (by omega), hl, show (i + 1) * 8 + j - 8 = i * 8 + j by omega, flatO_set vl i x y j u (by simpa using h) hj he, List.set_cons_succ, e]
/-- Objects in a row of one's own. -/
def OwnO (B : Nat) (w : World) (v : Value) (vl : List OV) : Prop := w.ownsRow B OT 8 v vl.length (flatO vl)
theorem OwnO.form {B : Nat} {w : World} {v : Value} {vl : List OV} (h : OwnO B w v vl) : ∃ a c, v = .slice a vl.length c := by
  obtain ⟨a, c, e, -⟩ := own_slice h
  exact ⟨a, c, e⟩
theorem addr_add (g j : Nat) : (⟨g, 0, none⟩ : Addr).add j = ⟨g, j, none⟩ := by unfold Addr.add; split <;> simp_all
theorem OwnO.row {B : Nat} {w : World} {v : Value} {vl : List OV} (h : OwnO B w v vl) {g : Nat} (hg : v.ownBlock = some g) (i : Nat) (x : OV) (hx : vl[i]? = some x) : ORow w g (i * 8) x := by
  have H : ∀ j u, (obC x)[j]? = some u → w.cell? ⟨g, i * 8 + j, none⟩ = some u := fun j u hj => by
    have hc := World.ownsRow.cells h hg (i * 8 + j) u (flatO_get vl i x j u hx hj)
    rw [addr_add] at hc
    exact hc
  exact ⟨H 0 _ rfl, H 1 _ rfl, H 2 _ rfl, H 3 _ rfl, H 4 _ rfl, H 5 _ rfl, H 6 _ rfl, H 7 _ rfl⟩
/-- A town: block T, the list's row, what the objects hold. -/
structure Tw (B T sb : Nat) (w : World) (lv : Value) (vl : List OV) (root : Nat) : Prop where
  ge : B ≤ T
  blk : Blk TT T #[.int .i64 3000, lv, .int .u32 0, .map (some sb), .int .u64 (root : Int)] w
  row : OwnO B w lv vl
  rds : ∀ x ∈ vl, OwnU B w x.2.1 x.1.words ∧ OwnY B w x.2.2 x.1.bytes
/-- What a town's functions may turn: blocks of a town's type, of objects; besides M. -/
def TX (B : Nat) (M : Nat → Prop) (w : World) (b : Nat) : Prop := B ≤ b ∧ ((∃ cs T' z, w.heap[b]? = some (.cells cs T' z) ∧ (T' = TT ∨ T' = OT)) ∨ M b)
structure Tf (B : Nat) (M : Nat → Prop) (w w' : World) : Prop where
  os : w'.os = w.os
  tape : w'.tape = w.tape
  output : w'.output = w.output
  size : w.heap.size ≤ w'.heap.size
  block : ∀ b, b < w.heap.size → ¬ TX B M w b → w'.heap[b]? = w.heap[b]?
section
variable {B T sb root e size n k TB : Nat} {M M' : Nat → Prop} {w w' w'' : World} {lv v : Value} {vl : List OV} {xs : List Value} {cs : Array Value}
theorem Tf.refl (B : Nat) (M : Nat → Prop) (w : World) : Tf B M w w := ⟨rfl, rfl, rfl, Nat.le_refl _, fun _ _ _ => rfl⟩
theorem Tf.trans (h : Tf B M w w') (k : Tf B M w' w'') : Tf B M w w'' :=
  ⟨k.os.trans h.os, k.tape.trans h.tape, k.output.trans h.output, Nat.le_trans h.size k.size, fun b hb hx => by
    have e := h.block b hb hx
    refine (k.block b (Nat.lt_of_lt_of_le hb h.size) fun ⟨h1, h2⟩ => hx ⟨h1, ?_⟩).trans e
    rcases h2 with ⟨cs, T', z, h3, h4⟩ | h2
    · exact .inl ⟨cs, T', z, by rw [← e]; exact h3, h4⟩
    · exact .inr h2⟩
theorem Tf.mono (h : Tf B M w w') (hs : ∀ b, M b → M' b) : Tf B M' w w' := ⟨h.os, h.tape, h.output, h.size, fun b hb hx => h.block b hb fun ⟨h1, h2⟩ => hx ⟨h1, h2.imp_right (hs b)⟩⟩
theorem Tf.of (h : Below w.heap.size w w') : Tf B M w w' := ⟨h.os, h.tape, h.output, h.size, fun b hb _ => h.block b hb⟩
theorem Tf.bel' {B0 : Nat} (h : Tf B M w w') (hB : B0 ≤ B) (hw : B0 ≤ w.heap.size) : Below B0 w w' := ⟨h.os, h.tape, h.output, h.size, fun b hb => h.block b (by omega) fun hx => by have := hx.1; omega⟩
theorem Tf.blk (h : Tf B M w w') (hk : Blk TB k cs w) (h1 : TB ≠ TT) (h2 : TB ≠ OT) (hM : ¬ M k) : Blk TB k cs w' :=
  (h.block k hk.lt fun ⟨_, hx⟩ => by
    rcases hx with ⟨cs', T', z, h3, h4⟩ | hx
    · unfold Blk at hk
      rw [hk] at h3
      cases h3
      rcases h4 with h4 | h4
      · exact h1 h4
      · exact h2 h4
    · exact hM hx).trans hk
theorem Tf.own (h : Tf B M w w') (ho : w.ownsRow k e size v n xs) (h1 : e ≠ TT) (h2 : e ≠ OT) (hM : ∀ b, v.ownBlock = some b → ¬ M b) : w'.ownsRow k e size v n xs := by
  obtain ⟨p, q⟩ := ho
  refine ⟨p, ?_⟩
  rcases q with hn | ⟨g, cap, cur, rfl, hb, hg, rest⟩
  · exact .inl hn
  · refine .inr ⟨g, cap, cur, rfl, hb, (h.block g (Array.getElem?_eq_some_iff.1 hg).1 fun ⟨_, hx⟩ => ?_).trans hg, rest⟩
    rcases hx with ⟨cs', T', z, h3, h4⟩ | hx
    · rw [hg] at h3
      cases h3
      rcases h4 with h4 | h4
      · exact h1 h4
      · exact h2 h4
    · exact hM g rfl hx
theorem Tf.map {κ α : Type} {P : Program} {kt et : TypeId} {kl : κ → Lit} {ok : κ → Prop} {el : α → Lit} {z : α} {f : κ → α} {g : κ → Bool} (h : Tf B M w w') (hm : MapOf P kt et kl ok el z k n f g w) (hM : ¬ M k) : MapOf P kt et kl ok el z k n f g w' := by
  refine hm.block (h.block k hm.lt fun ⟨_, hx⟩ => ?_)
  rcases hx with ⟨cs', T', z, h3, h4⟩ | hx
  · obtain ⟨D, ⟨es, c, h1, h5⟩, h2⟩ := hm
    rw [h1] at h3
    cases h3
  · exact hM hx
/-- A store into the list's row, or the town's block. -/
theorem Tf.set_ (h : Tf B M w w') {g : Nat} {TG : Nat} (hg : Blk TG g cs w') (hB : B ≤ g) (hT : TG = TT ∨ TG = OT) (i : Nat) (u : Value) : Tf B M w (w'.setCell ⟨g, i, none⟩ u) :=
  h.trans ⟨rfl, rfl, rfl, by simp [World.setCell], fun j _ hb => Below.heap_setCell w' ⟨g, i, none⟩ u j (fun e => hb (by
    have : j = g := e
    subst this
    exact ⟨hB, .inl ⟨cs, TG, _, hg, hT⟩⟩))⟩
theorem grown_tf (hg : w.grownBy w' v.ownBlock) (ho : w.ownsRow B OT size v n xs) : Tf B M w w' :=
  ⟨hg.os, hg.tape, hg.output, hg.size, fun b hb hx => hg.block b hb fun e => hx (by
    rcases ho.2 with ⟨rfl, hn⟩ | ⟨g, cap, cur, rfl, h1, h2, -⟩
    · cases e
    · have e : some b = some g := e
      cases e
      exact ⟨h1, .inl ⟨cur, OT, _, h2, .inr rfl⟩⟩)⟩
theorem Tw.bel (h : Tw B T sb w lv vl root) (hb : Below w.heap.size w w') : Tw B T sb w' lv vl root :=
  ⟨h.ge, h.blk.below hb h.blk.lt, own_below h.row hb, fun x hx => ⟨(h.rds x hx).1.bel hb, (h.rds x hx).2.bel hb⟩⟩
/-- As the reference's functions read it. -/
theorem Tw.obs (h : Tw B T sb w lv vl root) : Obs (fun _ => True) w lv (vl.map (·.1)) := by
  refine ⟨vl, rfl, ?_⟩
  have h0 := h.row
  have hlt := World.ownsRow.lt h.row
  rcases h.row.2 with ⟨rfl, hn⟩ | ⟨g, cap, cur, rfl, hb, hg, hnc, hcm, _⟩
  · exact ⟨none, 0, by rw [hn], by omega, by unfold maxLen; omega, fun hl => by omega, fun x hx => ⟨(Rd.own (h.rds x hx).1).mono (fun _ _ _ => trivial), (Rd.own (h.rds x hx).2).mono (fun _ _ _ => trivial)⟩⟩
  · refine ⟨some ⟨g, 0, none⟩, cap, rfl, hnc, hcm, fun _ => ⟨g, 0, rfl, trivial, (hlt g rfl).2, fun i x hx => ?_⟩, fun x hx => ⟨(Rd.own (h.rds x hx).1).mono (fun _ _ _ => trivial), (Rd.own (h.rds x hx).2).mono (fun _ _ _ => trivial)⟩⟩
    rw [Nat.zero_add]
    exact h0.row rfl i x hx
end
theorem ot_info : ∃ i : TypeInfo, Try.prog.info? OT = some i ∧ i.zero = some (.agg #[.int .i64 0, .int .u64 0, .int .i64 0, .int .i64 0, .int .u32 0, .bool false, .slice none 0 0, .slice none 0 0]) ∧ i.size = 8 ∧ i.bytes = 88 := by
  obtain ⟨i, h, h1, h2, h3⟩ := info_parts (show (Try.prog.info? OT).map (fun i => (i.zero, i.size, i.bytes)) = some (some (.agg #[.int .i64 0, .int .u64 0, .int .i64 0, .int .i64 0, .int .u32 0, .bool false, .slice none 0 0, .slice none 0 0]), 8, 88) by kernel_rfl)
  exact ⟨i, h, h1, h2, h3⟩
theorem tyne : TT ≠ OT ∧ UT ≠ TT ∧ UT ≠ OT ∧ YT ≠ TT ∧ YT ≠ OT ∧ UT ≠ YT := by decide
end Hp
end Go.Proofs.Ytojblndlchcjeaa
