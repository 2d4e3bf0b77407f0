/- Chapter 17: items in memory (wip/gen/gen_hpit.py prints this out of chapter 13). · Chapter 17: SameItems of items that are the same (wip/gen/gen_hpit.py). · Chapter 17: items: the document's, out of the program's (wip/gen/gen_hpit.py). · Chapter 17: Told (wip/gen/gen_hpit.py). -/
import Derived.Test.YtojblndlchcjeaaHpRd
import Derived.Test.YtojblndlchcjeaaHpAb
import Derived.Deep.AppendLies
import Derived.Test.YtojblndlchcjeaaHpRe1
import Derived.Deep.QuietTactic
import Derived.BigQuiet
import Derived.Laws.OwnMore
import Derived.Deep.CutBlock
import Derived.Deep.DeepCutAuto
set_option linter.unusedVariables false
namespace Go.Proofs.Ytojblndlchcjeaa
open Go.RowKit
namespace Hp
open Bs Sm
theorem cells6 (W : World) (T : TypeId) (v0 v1 v2 v3 v4 v5 : Value) : ∀ j u, [v0, v1, v2, v3, v4, v5][j]? = some u → (W.alloc (.cells #[v0, v1, v2, v3, v4, v5] T)).cell? ((⟨W.heap.size, 0, none⟩ : Addr).add j) = some u := by
  intro j u hj
  match j, hj with
  | 0, hj => simp at hj; subst hj; simp [Addr.add]
  | 1, hj => simp at hj; subst hj; simp [Addr.add]
  | 2, hj => simp at hj; subst hj; simp [Addr.add]
  | 3, hj => simp at hj; subst hj; simp [Addr.add]
  | 4, hj => simp at hj; subst hj; simp [Addr.add]
  | 5, hj => simp at hj; subst hj; simp [Addr.add]
  | n + 6, hj => simp at hj
/-- An item's cells. -/
def itC (x : It) (kv : Value) : List Value := [.int .i64 x.kind, .string ⟨x.name.toArray⟩, .int .i64 x.num, .int .i64 x.slot, .int .i64 x.width, kv]
def itV (x : It) (kv : Value) : Value := .agg #[.int .i64 x.kind, .string ⟨x.name.toArray⟩, .int .i64 x.num, .int .i64 x.slot, .int .i64 x.width, kv]
/-- Six cells of an item. -/
def IRow (w : World) (b o : Nat) (x : It) (kv : Value) : Prop :=
  w.cell? ⟨b, o, none⟩ = some (.int .i64 x.kind) ∧ w.cell? ⟨b, o + 1, none⟩ = some (.string ⟨x.name.toArray⟩) ∧ w.cell? ⟨b, o + 2, none⟩ = some (.int .i64 x.num) ∧ w.cell? ⟨b, o + 3, none⟩ = some (.int .i64 x.slot) ∧ w.cell? ⟨b, o + 4, none⟩ = some (.int .i64 x.width) ∧ w.cell? ⟨b, o + 5, none⟩ = some kv
theorem IRow.kp {w w' : World} {b o : Nat} {x : It} {kv : Value} (h : IRow w b o x kv) (hk : ∀ i, w'.cell? ⟨b, i, none⟩ = w.cell? ⟨b, i, none⟩) : IRow w' b o x kv := by
  obtain ⟨h0, h1, h2, h3, h4, h5⟩ := h
  exact ⟨(hk _).trans h0, (hk _).trans h1, (hk _).trans h2, (hk _).trans h3, (hk _).trans h4, (hk _).trans h5⟩
/-- A slice of items that can be read, with all within them; all blocks are of S. -/
inductive Its (S : Nat → Prop) (w : World) : Value → List It → Prop
  | mk (vl : List (It × Value)) (a : Option Addr) (cap : Nat) (h1 : vl.length ≤ cap) (h2 : cap ≤ maxLen)
      (hc : 0 < vl.length → ∃ b off, a = some ⟨b, off, none⟩ ∧ S b ∧ b < w.heap.size ∧ ∀ i x, vl[i]? = some x → IRow w b (off + i * 6) x.1 x.2)
      (hk : ∀ x ∈ vl, Its S w x.2 x.1.kids) : Its S w (.slice a vl.length cap) (vl.map (·.1))
section
variable {S S' : Nat → Prop} {w w' : World} {v : Value} {l : List It}
theorem Its.kp (h : Its S w v l) (hk : Kp S w w') : Its S w' v l := by
  induction h with
  | mk vl a cap h1 h2 hc _ ih =>
    refine .mk vl a cap h1 h2 (fun hl => ?_) ih
    obtain ⟨b, off, k1, k0, k2, k3⟩ := hc hl
    exact ⟨b, off, k1, k0, Nat.lt_of_lt_of_le k2 hk.1, fun i x hx => (k3 i x hx).kp (fun j => hk.cell k0 k2 j)⟩
theorem Its.bel (h : Its S w v l) (hb : Below w.heap.size w w') : Its S w' v l := h.kp (Kp.of hb)
theorem Its.mono (h : Its S w v l) (hs : ∀ b, S b → b < w.heap.size → S' b) : Its S' w v l := by
  induction h with
  | mk vl a cap h1 h2 hc _ ih =>
    refine .mk vl a cap h1 h2 (fun hl => ?_) ih
    obtain ⟨b, off, k1, k0, k2, k3⟩ := hc hl
    exact ⟨b, off, k1, hs b k0 k2, k2, k3⟩
theorem Its.nil (S : Nat → Prop) (w : World) : Its S w (.slice none 0 0) [] := .mk [] none 0 (by simp) (by unfold maxLen; omega) (fun h => by simp at h) (fun x hx => by cases hx)
theorem Its.form (h : Its S w v l) : ∃ a cap, v = .slice a l.length cap ∧ l.length ≤ cap ∧ cap ≤ maxLen := by
  cases h with
  | mk vl a cap h1 h2 hc hk => exact ⟨a, cap, by rw [List.length_map], by rw [List.length_map]; exact h1, h2⟩
/-- The item at a place. -/
theorem Its.nth {a : Option Addr} {n cap : Nat} (h : Its S w (.slice a n cap) l) (i : Nat) (hi : i < n) :
    ∃ b off x ka kc, a = some ⟨b, off, none⟩ ∧ l[i]? = some x ∧ b < w.heap.size ∧ S b ∧ IRow w b (off + i * 6) x (.slice ka x.kids.length kc) ∧ Its S w (.slice ka x.kids.length kc) x.kids := by
  generalize hv : Value.slice a n cap = v at h
  cases h with
  | mk vl a cap h1 h2 hc hk =>
    cases hv
    obtain ⟨b, off, k1, k0, k2, k3⟩ := hc (by omega)
    have hx := List.getElem?_eq_getElem hi
    have hkk := hk _ (List.getElem_mem hi)
    have hrr := k3 i _ hx
    obtain ⟨ka, kc, e, -, -⟩ := hkk.form
    rw [e] at hkk hrr
    exact ⟨b, off, vl[i].1, ka, kc, k1, by rw [List.getElem?_map, hx]; rfl, k2, k0, hrr, hkk⟩
theorem Its.len {a : Option Addr} {n cap : Nat} (h : Its S w (.slice a n cap) l) : n = l.length ∧ l.length ≤ cap ∧ cap ≤ maxLen := by
  obtain ⟨a', c', e, h1, h2⟩ := h.form
  cases e
  exact ⟨rfl, h1, h2⟩
end
abbrev IL : Type := List (It × Value)
def flatI (vl : IL) : List Value := vl.flatMap (fun x => itC x.1 x.2)
theorem flatI_snoc (vl : IL) (x : It × Value) : flatI (vl ++ [x]) = flatI vl ++ itC x.1 x.2 := by unfold flatI; simp
theorem flatI_get : ∀ (vl : IL) (i : Nat) (x : It × Value) (j : Nat) (u : Value), vl[i]? = some x → (itC x.1 x.2)[j]? = some u → (flatI vl)[i * 6 + j]? = some u
  | [], i, x, j, u, h, _ => by simp at h
  | y :: vl, 0, x, j, u, h, hj => by
    simp at h
    subst h
    have e : flatI (y :: vl) = itC y.1 y.2 ++ flatI vl := rfl
    have hl : (itC y.1 y.2).length = 6 := rfl
    have := (List.getElem?_eq_some_iff.1 hj).1
    rw [e, Nat.zero_mul, Nat.zero_add, List.getElem?_append_left (by omega)]
    exact hj
  | y :: vl, i + 1, x, j, u, h, hj => by
    have e : flatI (y :: vl) = itC y.1 y.2 ++ flatI vl := rfl
    have hl : (itC y.1 y.2).length = 6 := rfl
    rw [e, List.getElem?_append_right (by omega), hl]
    have e2 : (i + 1) * 6 + j - 6 = i * 6 + j := by omega
    rw [e2]
    exact flatI_get vl i x j u (by simpa using h) hj
/-- A row of one's own whose items' parts lie elsewhere, in blocks of S. -/
def OwnI (T B : Nat) (S : Nat → Prop) (w : World) (v : Value) (l : List It) : Prop :=
  ∃ vl : IL, vl.map (·.1) = l ∧ w.ownsRow B T 6 v vl.length (flatI vl) ∧ ∀ x ∈ vl, Its (fun b => S b ∧ v.ownBlock ≠ some b) w x.2 x.1.kids
section
variable {T B : Nat} {S S' : Nat → Prop} {w w' : World} {v : Value} {l : List It}
theorem OwnI.nil (T B : Nat) (S : Nat → Prop) (w : World) : OwnI T B S w (.slice none 0 0) [] := ⟨[], rfl, World.ownsRow_nil _ _ _ _, fun x hx => by cases hx⟩
theorem OwnI.kp (h : OwnI T B S w v l) (hs : w.heap.size ≤ w'.heap.size) (hk : ∀ b, b < w.heap.size → (S b ∨ v.ownBlock = some b) → w'.heap[b]? = w.heap[b]?) : OwnI T B S w' v l := by
  obtain ⟨vl, h1, h2, h3⟩ := h
  have hlt := h2.lt
  refine ⟨vl, h1, ?_, fun x hx => (h3 x hx).kp ⟨hs, fun b hb hl => hk b hl (.inl hb.1)⟩⟩
  obtain ⟨e1, e2⟩ := h2
  refine ⟨e1, ?_⟩
  rcases e2 with hn | ⟨g, cap, cur, rfl, hb, hg, rest⟩
  · exact .inl hn
  · exact .inr ⟨g, cap, cur, rfl, hb, (hk g (hlt g rfl).2 (.inr rfl)).trans hg, rest⟩
theorem OwnI.bel (h : OwnI T B S w v l) (hb : Below w.heap.size w w') : OwnI T B S w' v l := h.kp hb.size (fun b hl _ => hb.block b hl)
theorem OwnI.lt (h : OwnI T B S w v l) : ∀ k, v.ownBlock = some k → B ≤ k ∧ k < w.heap.size := by
  obtain ⟨vl, -, h2, -⟩ := h
  exact h2.lt
theorem OwnI.mono (h : OwnI T B S w v l) (hs : ∀ j, S j → j < w.heap.size → S' j) : OwnI T B S' w v l := by
  obtain ⟨vl, h1, h2, h3⟩ := h
  exact ⟨vl, h1, h2, fun x hx => (h3 x hx).mono (fun b hb hl => ⟨hs b hb.1 hl, hb.2⟩)⟩
/-- All within can be read. -/
theorem OwnI.its (h : OwnI T B S w v l) : Its (fun b => S b ∨ v.ownBlock = some b) w v l := by
  obtain ⟨vl, rfl, h2, h3⟩ := h
  have hlt := h2.lt
  have h0 := h2
  rcases h2.2 with ⟨rfl, hn⟩ | ⟨g, cap, cur, rfl, hb, hg, hnc, hcm, _⟩
  · obtain rfl : vl = [] := List.eq_nil_of_length_eq_zero hn
    exact Its.nil _ _
  · refine .mk vl _ cap hnc hcm (fun _ => ⟨g, 0, rfl, .inr rfl, (hlt g rfl).2, fun i x hx => ?_⟩) (fun x hx => (h3 x hx).mono (fun b hb _ => .inl hb.1))
    have H : ∀ j u, (itC x.1 x.2)[j]? = some u → w.cell? ⟨g, 0 + i * 6 + j, none⟩ = some u := fun j u hj => by
      have hc := World.ownsRow.cells h0 (g := g) rfl (i * 6 + j) u (flatI_get vl i x j u hx hj)
      have e : (⟨g, 0, none⟩ : Addr).add (i * 6 + j) = ⟨g, 0 + i * 6 + j, none⟩ := by unfold Addr.add; split <;> simp_all
      rw [e] at hc
      exact hc
    exact ⟨H 0 _ rfl, H 1 _ rfl, H 2 _ rfl, H 3 _ rfl, H 4 _ rfl, H 5 _ rfl⟩
/-- One more item. -/
theorem ownI_snoc {vl : IL} {x : It} {kv : Value} {g cap n : Nat} (hnn : n = vl.length) (hsz : w.heap.size ≤ w'.heap.size)
    (h3 : ∀ y ∈ vl, Its (fun b => S b ∧ v.ownBlock ≠ some b) w y.2 y.1.kids) (hk : Its (fun b => S b ∧ v.ownBlock ≠ some b) w kv x.kids)
    (hown : w'.ownsRow B T 6 (.slice (some ⟨g, 0, none⟩) (n + 1) cap) (n + 1) (flatI vl ++ itC x kv)) (hgrow : w.grownBy w' v.ownBlock) (hat : v.ownBlock = some g ∨ g = w.heap.size) :
    OwnI T B S w' (.slice (some ⟨g, 0, none⟩) (n + 1) cap) (vl.map (·.1) ++ [x]) := by
  subst hnn
  have hkp : Kp (fun b => (S b ∧ v.ownBlock ≠ some b) ∧ b < w.heap.size) w w' := ⟨hsz, fun b hb hl => hgrow.block b hl (fun e => hb.1.2 e.symm)⟩
  have hm1 : ∀ b, (S b ∧ v.ownBlock ≠ some b) → b < w.heap.size → ((S b ∧ v.ownBlock ≠ some b) ∧ b < w.heap.size) := fun b hb hl => ⟨hb, hl⟩
  have hm2 : ∀ b, ((S b ∧ v.ownBlock ≠ some b) ∧ b < w.heap.size) → b < w'.heap.size → (S b ∧ (Value.slice (some ⟨g, 0, none⟩) (vl.length + 1) cap).ownBlock ≠ some b) := fun b hb _ => ⟨hb.1.1, fun e => by
    have e : some g = some b := e
    cases e
    rcases hat with h | h
    · exact hb.1.2 h
    · have := hb.2
      omega⟩
  refine ⟨vl ++ [(x, kv)], by simp, ?_, fun y hy => ?_⟩
  · rw [flatI_snoc, List.length_append]
    exact hown
  · rcases List.mem_append.1 hy with hy | hy
    · exact (((h3 y hy).mono hm1).kp hkp).mono hm2
    · obtain rfl := List.mem_singleton.1 hy
      exact ((hk.mono hm1).kp hkp).mono hm2
end
abbrev IT : Nat := 53
abbrev RIT : Nat := 59
end Hp
end Go.Proofs.Ytojblndlchcjeaa
namespace Go.Proofs.Ytojblndlchcjeaa
open Go.RowKit
namespace Hp
open Bs Sm
theorem below_dn {B : Nat} {a w : World} (h : Below B a w) (n : Nat) : Below B a (w.drewN n) := ⟨h.os, h.tape, h.output, h.size, h.block⟩
def SmOk (l : List It) : Prop := ∀ (va vb : Value) (w : World), Its (fun _ => True) w va l → Its (fun _ => True) w vb l →
  Calls Try.prog 15 #[va, vb] w (fun e w' => e = .returned (.bool true) ∧ ∃ q, w' = w.drewN q)
set_option maxRecDepth 100000 in
set_option maxHeartbeats 3200000 in
theorem sm_step (l : List It) (IH : ∀ x ∈ l, SmOk x.kids) : SmOk l := by
  intro va vb w ha hb
  obtain ⟨aa, ac, rfl, ha1, ha2⟩ := ha.form
  obtain ⟨ba, bc, rfl, hb1, hb2⟩ := hb.form
  unfold maxLen at ha2 hb2
  obtain ⟨n, hn⟩ : ∃ n, l.length = n := ⟨_, rfl⟩
  rw [hn] at ha ha1 hb hb1
  rw [hn]
  have HN := Lib.hid hn
  have HA := Lib.hid ha
  have HB := Lib.hid hb
  replace IH := Lib.hid IH
  clear ha hb hn
  go_enter Try.func15, Try.ntmps15
  go_wp2_with fail
  go_loopw [5] (fun y wr => ∃ k : Nat, y = .int .i64 (k : Int) ∧ k ≤ n ∧ (∃ q, wr = w.drewN q)) (fun y _ => n - (intOf y).toNat)
  case atStart => exact ⟨0, rfl, Nat.zero_le _, ⟨0, rfl⟩⟩
  case round =>
    obtain ⟨k, rfl, hk, ⟨q, hq⟩⟩ := hrel
    by_cases hkn : k < n
    · have hdec : decide ((k : Int) < (n : Int)) = true := by simpa using hkn
      have hkw : IntKind.i64.wrap ((k : Int) + 1) = (k : Int) + 1 := IntWalk.i64_in _ (by omega)
      have hbel : Below w.heap.size w wr := by rw [hq]; exact below_dn (Below.refl _ _) _
      obtain ⟨g1, o1, x, ka1, kc1, hx0, hx, hg1, -, ⟨c0, c1, c2, c3, c4, c5⟩, hkt1⟩ := (HA.out.bel hbel).nth k hkn
      obtain ⟨g2, o2, z, ka2, kc2, hz0, hz, hg2, -, ⟨d0, d1, d2, d3, d4, d5⟩, hkt2⟩ := (HB.out.bel hbel).nth k hkn
      subst hx0
      subst hz0
      rw [hx] at hz
      obtain rfl := Option.some.inj hz
      clear hz
      have hkn1 : (k : Int) < (n : Int) := by omega
      have hk0 : 0 ≤ (k : Int) := by omega
      have HQR : Hid (∃ q, wr = w.drewN q) := Lib.hid ⟨q, hq⟩
      clear hq
      have hxm := List.mem_of_getElem? hx
      have HKD : Hid (∀ n, Calls Try.prog 15 #[.slice ka1 x.kids.length kc1, .slice ka2 x.kids.length kc2] (wr.drewN n) (fun e w' => e = .returned (.bool true) ∧ ∃ q, w' = (wr.drewN n).drewN q)) := Lib.hid (fun n => IH.out x hxm _ _ (wr.drewN n) (hkt1.bel (below_dn (Below.refl _ wr) n)) (hkt2.bel (below_dn (Below.refl _ wr) n)))
      clear hx hxm hbel hkt1 hkt2
      go_wp2_with fail
      simp only [List.append]
      refine wp_region_quiet_lit (by kernel_rfl) (by kernel_rfl) ?_
      repeat (go_big_quiet_step (first | (go_at_call 15; exact Calls.quiet_of (HKD.out _))))
      refine wpQuiet_nil ?_
      intro _ hw'
      obtain ⟨nq, hw''⟩ := hw'
      subst hw''
      go_wp2_with fail
      exact ⟨⟨k + 1, by simp, by omega, (by obtain ⟨q, h⟩ := HQR.out; rw [h]; exact ⟨_, World.drewN_drewN _ _ _⟩)⟩, by simp only [intOf]; omega⟩
    · obtain rfl : k = n := by omega
      have hdec : decide ((k : Int) < (k : Int)) = false := by simp
      have HQR : Hid (∃ q, wr = w.drewN q) := Lib.hid ⟨q, hq⟩
      clear hq
      go_wp2_with fail
      go_ret
      exact ⟨rfl, HQR.out⟩
theorem sm_all : ∀ (m : Nat) (l : List It), cntI l < m → SmOk l
  | 0, l, h => by omega
  | m + 1, l, h => sm_step l (fun y hy => sm_all m y.kids (by have := cntI_mem hy; omega))
theorem sm_any (l : List It) : SmOk l := sm_all (cntI l + 1) l (by omega)
end Hp
end Go.Proofs.Ytojblndlchcjeaa
namespace Go.Proofs.Ytojblndlchcjeaa
open Go.RowKit
namespace Hp
open Bs Sm
theorem takeI_snoc {α : Type} {l : List α} {k : Nat} {x : α} (h : l[k]? = some x) : l.take (k + 1) = l.take k ++ [x] := by
  obtain ⟨h1, h2⟩ := List.getElem?_eq_some_iff.1 h
  rw [List.take_succ_eq_append_getElem h1, h2]
def ItemsOk (l : List It) : Prop := ∀ (v : Value) (w : World), Its (fun _ => True) w v l →
  Calls Try.prog 31 #[v] w (fun e w' => Below w.heap.size w w' ∧ ∃ v', e = .returned v' ∧ OwnI 59 w.heap.size (fun b => w.heap.size ≤ b) w' v' l)
set_option maxRecDepth 100000 in
set_option maxHeartbeats 6400000 in
theorem items_step (l : List It) (hcnt : l.length ≤ 2000000) (IH : ∀ y ∈ l, ItemsOk y.kids) : ItemsOk l := by
  intro v w hl
  obtain ⟨i0, hi0, hz0, hz1, hz2⟩ := info_parts (show (Try.prog.info? 59).map (fun i => (i.zero, i.size, i.bytes)) = some (some (.agg #[.int .i64 0, .string ⟨#[]⟩, .int .i64 0, .int .i64 0, .int .i64 0, .slice none 0 0]), 6, 72) by kernel_rfl)
  have tsl : Try.prog.underlying 57 = some (.slice 59) := by kernel_rfl
  obtain ⟨a, c, rfl, hc, hm⟩ := hl.form
  obtain ⟨n, hn⟩ : ∃ n, l.length = n := ⟨_, rfl⟩
  have HN := Lib.hid hn
  have hn200 : n ≤ 2000000 := by omega
  rw [hn] at hl ⊢
  have HL := Lib.hid hl
  replace IH := Lib.hid IH
  clear hl hn hm hc hcnt
  go_enter Try.func31, Try.ntmps31
  go_wp2_with fail
  go_loopw [3, 8] (fun o y wr => ∃ (k : Nat), y = .int .i64 (k : Int) ∧ k ≤ n ∧ Hid (OwnI 59 w.heap.size (fun b => w.heap.size ≤ b) wr o (l.take k)) ∧ Below w.heap.size w wr) (fun _ y _ => n - (intOf y).toNat)
  case atStart => exact ⟨0, rfl, Nat.zero_le _, Lib.hid (by rw [List.take_zero]; exact OwnI.nil _ _ _ _), Below.refl _ _⟩
  case round =>
    obtain ⟨k, rfl, hk, hown, hbr⟩ := hrel
    by_cases hkn : k < n
    · have hdec : decide ((k : Int) < (n : Int)) = true := by simpa using hkn
      have hkw : IntKind.i64.wrap ((k : Int) + 1) = (k : Int) + 1 := IntWalk.i64_in _ (by omega)
      obtain ⟨gb, off, x, ka, kc, rfl, hx, hgb, -, ⟨c0, c1, c2, c3, c4, c5⟩, hkt⟩ := (HL.out.bel hbr).nth k hkn
      have hxl := List.mem_of_getElem? hx
      have HIH := Lib.hid (IH.out x hxl)
      have HTK := Lib.hid (takeI_snoc hx)
      have HTL : Hid ((l.take k).length = k) := Lib.hid (by rw [List.length_take, HN.out]; omega)
      go_upto_region 5 with fail
      have hX5 := alloc_bel wr (.cells #[.int .i64 x.kind, .string ⟨x.name.toArray⟩, .int .i64 x.num, .int .i64 x.slot, .int .i64 x.width, .slice ka x.kids.length kc] 53)
      have hk5 := Blk.made (T := 53) (cs := #[.int .i64 x.kind, .string ⟨x.name.toArray⟩, .int .i64 x.num, .int .i64 x.slot, .int .i64 x.width, .slice ka x.kids.length kc]) wr
      have hz5 : (wr.alloc (.cells #[.int .i64 x.kind, .string ⟨x.name.toArray⟩, .int .i64 x.num, .int .i64 x.slot, .int .i64 x.width, .slice ka x.kids.length kc] 53)).heap.size = wr.heap.size + 1 := by simp
      have hO5 := hown.out.bel hX5
      have HKT := Lib.hid (hkt.bel hX5)
      obtain ⟨W5, hW5⟩ : ∃ W, wr.alloc (.cells #[.int .i64 x.kind, .string ⟨x.name.toArray⟩, .int .i64 x.num, .int .i64 x.slot, .int .i64 x.width, .slice ka x.kids.length kc] 53) = W := ⟨_, rfl⟩
      rw [hW5] at hX5 hk5 hz5 hO5 HKT ⊢
      obtain ⟨KB, hKB⟩ : ∃ b, wr.heap.size = b := ⟨_, rfl⟩
      rw [hKB] at hk5 hz5 ⊢
      have hwKB : w.heap.size ≤ KB := by rw [← hKB]; exact hbr.size
      have hown5 : ∀ b, u3.ownBlock = some b → w.heap.size ≤ b ∧ b < KB := fun b hb => by
        have := hown.out.lt b hb
        omega
      obtain ⟨vl, hvl, hrow, hsub⟩ := hO5
      have hvll : vl.length = k := by have h := congrArg List.length hvl; rw [List.length_map, HTL.out] at h; exact h
      rw [hvll] at hrow
      have HVL := Lib.hid hvl
      have HVLL := Lib.hid hvll
      have HROW := Lib.hid hrow
      have HSUB := Lib.hid hsub
      have HOWN5 := Lib.hid hown5
      have HK5 := Lib.hid hk5
      have hbr5 := hbr.trans (hX5.mono hbr.size)
      have HBR5 := Lib.hid hbr5
      have hkl := hk5.lt
      have hS : ∀ v, Below W5.heap.size W5 v → (v.cell? ⟨KB, 0, none⟩ = some (.int .i64 x.kind) ∧ v.cell? ⟨KB, 1, none⟩ = some (.string ⟨x.name.toArray⟩) ∧ v.cell? ⟨KB, 2, none⟩ = some (.int .i64 x.num) ∧ v.cell? ⟨KB, 3, none⟩ = some (.int .i64 x.slot) ∧ v.cell? ⟨KB, 4, none⟩ = some (.int .i64 x.width) ∧ v.cell? ⟨KB, 5, none⟩ = some (.slice ka x.kids.length kc)) := fun v hv =>
        have h := HK5.out.below hv hkl
        ⟨h.c 0 _ rfl, h.c 1 _ rfl, h.c 2 _ rfl, h.c 3 _ rfl, h.c 4 _ rfl, h.c 5 _ rfl⟩
      clear hW5 hKB hX5 hk5 hvl hvll hrow hsub hown5 hown hkt hx hxl c0 c1 c2 c3 c4 c5 hbr hbr5
      refine wp_region_noPanic ?_
      refine Hd.start (fun v => v.cell? ⟨KB, 0, none⟩ = some (.int .i64 x.kind) ∧ v.cell? ⟨KB, 1, none⟩ = some (.string ⟨x.name.toArray⟩) ∧ v.cell? ⟨KB, 2, none⟩ = some (.int .i64 x.num) ∧ v.cell? ⟨KB, 3, none⟩ = some (.int .i64 x.slot) ∧ v.cell? ⟨KB, 4, none⟩ = some (.int .i64 x.width) ∧ v.cell? ⟨KB, 5, none⟩ = some (.slice ka x.kids.length kc)) (by kernel_rfl) (hS _ (Below.refl _ W5).drew) (fun hH0 => ?_)
      refine Hd.tk 0 16 hH0 ?_
      refine Hd.tk 1 2 hH0 ?_
      refine Hd.tk 2 14 hH0 ?_
      refine Hd.tk 3 4 hH0 ?_
      refine Hd.tk 4 14 hH0 ?_
      refine Hd.tk 5 6 hH0 ?_
      refine Hd.tk 6 14 hH0 ?_
      refine Hd.tk 7 8 hH0 ?_
      refine Hd.tk 8 14 hH0 ?_
      refine Hd.tk 9 10 hH0 ?_
      refine Hd.tk 10 14 hH0 ?_
      refine Hd.tk 11 12 hH0 ?_
      refine Hd.tk 12 13 hH0 ?_
      refine Hd.on 13 (fun K hK => ?_)
      go_simp
      refine (HIH.out _ _ (HKT.out.bel (Below.refl _ W5).drew)).mono ?_; rintro e w6 ⟨hb6, v6, rfl, hO6⟩
      have hT6 := hO6.its
      have hlo6 : ∀ g, v6.ownBlock = some g → W5.heap.size ≤ g := fun g hg => (hO6.lt g hg).1
      obtain ⟨fo, fc, hv6, -, -⟩ := hT6.form
      obtain ⟨fl, hfl⟩ : ∃ q, x.kids.length = q := ⟨_, rfl⟩
      rw [hfl] at hv6
      subst hv6
      have hb6' : Below W5.heap.size W5 w6 := (Below.refl _ W5).drew.trans (hb6.mono (Nat.le_refl _))
      have HB6 := Lib.hid hb6'
      have HT6 := Lib.hid (hT6.mono (S' := fun b => W5.heap.size ≤ b) (fun b hb hl => by rcases hb with hb | hb; exact hb; exact hlo6 b hb))
      clear hO6 hT6 hlo6 hb6 hb6'
      go_wp2_with fail
      refine hK.out _ _ (hS _ HB6.out) (fun hH1 => ?_)
      clear hK K
      try simp only [Act.put, List.setIfInBounds_toArray, List.set_cons_zero, List.set_cons_succ]
      refine Hd.tk 14 15 hH1 ?_
      have hX9 := alloc_bel w6 (.cells #[.int .i64 x.kind, .string ⟨x.name.toArray⟩, .int .i64 x.num, .int .i64 x.slot, .int .i64 x.width, .slice fo fl fc] 59)
      have HB9 := Lib.hid (HB6.out.trans (hX9.mono HB6.out.size))
      have HX9 := Lib.hid hX9
      clear hX9
      refine Hd.on 15 (fun K hK => ?_)
      go_simp
      refine hK.out _ _ (hS _ HB9.out) (fun hH4 => ?_)
      clear hK K
      try simp only [Act.put, List.setIfInBounds_toArray, List.set_cons_zero, List.set_cons_succ]
      have HR9 := Lib.hid (own_below HROW.out HB9.out)
      have hsz9 := HB9.out.size
      have hsz6 := HB6.out.size
      refine Hd.on 16 (fun K hK => ?_)
      refine step_append_lies _ rfl (.tmp 12) (.tmp 27) 57 rfl w.heap.size 59 i0 (.agg #[.int .i64 0, .string ⟨#[]⟩, .int .i64 0, .int .i64 0, .int .i64 0, .slice none 0 0]) 6 72 tsl hi0 hz0 hz1 hz2 rfl (by decide) _ k (flatI vl) (by simp [Act.eval]) HR9.out ⟨w6.heap.size, 0, none⟩ 1 1 [.int .i64 x.kind, .string ⟨x.name.toArray⟩, .int .i64 x.num, .int .i64 x.slot, .int .i64 x.width, .slice fo fl fc] (by simp [Act.eval]) rfl (cells6 w6 59 _ _ _ _ _ _) (fun u hu => by simp at hu; rcases hu with rfl | rfl | rfl | rfl | rfl | rfl <;> rfl) (by decide) (by unfold maxLen; omega) (by omega) (by omega) _ rfl ?_
      intro g cap w10 hown10 hg10 hat10 hlt10
      have hm9 : ∀ b, W5.heap.size ≤ b → (w.heap.size ≤ b ∧ u3.ownBlock ≠ some b) := fun b hb => ⟨by omega, fun h => by have := HOWN5.out b h; omega⟩
      have hsn := ownI_snoc (n := k) (S := fun b => w.heap.size ≤ b) (x := x) (kv := .slice fo fl fc) HVLL.out.symm hg10.size (fun y hy => (HSUB.out y hy).bel HB9.out) ((HT6.out.bel HX9.out).mono (fun b hb _ => hm9 b hb)) hown10 hg10 hat10
      rw [HVL.out, ← HTK.out] at hsn
      have hk10 := (hg10.block KB (HK5.out.below HB9.out hkl).lt (fun e => by have := HOWN5.out KB e.symm; omega)).trans (HK5.out.below HB9.out hkl)
      have hb59 := HBR5.out.trans (HB9.out.mono HBR5.out.size)
      have hb10 := hb59.grown hg10 hb59.size (fun k hk => (HOWN5.out k hk).1)
      have HSN := Lib.hid hsn
      have HB10 := Lib.hid hb10
      have HK10 := Lib.hid (show Blk 53 KB #[.int .i64 x.kind, .string ⟨x.name.toArray⟩, .int .i64 x.num, .int .i64 x.slot, .int .i64 x.width, .slice ka x.kids.length kc] w10 from hk10)
      clear hown10 hg10 hat10 hlt10 hsn hk10 hb10 hb59 hm9 hsz9 hsz6
      refine hK.out _ _ ⟨HK10.out.c 0 _ rfl, HK10.out.c 1 _ rfl, HK10.out.c 2 _ rfl, HK10.out.c 3 _ rfl, HK10.out.c 4 _ rfl, HK10.out.c 5 _ rfl⟩ (fun hH5 => ?_)
      clear hK K
      try simp only [Act.put, List.setIfInBounds_toArray, List.set_cons_zero, List.set_cons_succ]
      refine Hd.la 17 (fun K hK => ?_)
      go_simp
      refine hK.out _ _ ?_
      clear hK K
      try simp only [Act.put, List.setIfInBounds_toArray, List.set_cons_zero, List.set_cons_succ]
      simp only [NoPanic]
      clear hS
      go_wp2_with fail
      exact ⟨⟨k + 1, by simp, by omega, HSN, HB10.out⟩, by simp only [intOf]; omega⟩
    · obtain rfl : k = n := by omega
      have hdec : decide ((k : Int) < (k : Int)) = false := by simp
      have hall : l.take k = l := List.take_of_length_le (by rw [HN.out]; exact Nat.le_refl _)
      rw [hall] at hown
      clear hall
      go_wp2_with fail
      go_ret
      exact ⟨hbr, _, rfl, hown.out⟩
theorem items_all : ∀ (m : Nat) (l : List It), cntI l < m → LenI 2000000 l → ItemsOk l
  | 0, l, h, _ => by omega
  | m + 1, l, h, hm => items_step l hm.len (fun y hy => items_all m y.kids (by have := cntI_mem hy; omega) (hm.sub hy))
theorem items_any (l : List It) (hm : LenI 2000000 l) : ItemsOk l := items_all (cntI l + 1) l (by omega) hm
end Hp
end Go.Proofs.Ytojblndlchcjeaa
namespace Go.Proofs.Ytojblndlchcjeaa
open Go.RowKit
namespace Hp
open Bs Sm
abbrev CDT : Nat := 66
section
variable {T j k B : Nat} {a0 a1 a2 a3 a4 v0 v1 v2 v3 v4 : Value} {cs : Array Value} {S : Nat → Prop} {w w0 : World}
def st5 (k : Nat) (w : World) (v0 v1 v2 v3 v4 : Value) : World := ((((w.setCell ⟨k, 0, none⟩ v0).setCell ⟨k, 1, none⟩ v1).setCell ⟨k, 2, none⟩ v2).setCell ⟨k, 3, none⟩ v3).setCell ⟨k, 4, none⟩ v4
theorem blk_st5 (h : Blk T k #[a0, a1, a2, a3, a4] w) : Blk T k #[v0, v1, v2, v3, v4] (st5 k w v0 v1 v2 v3 v4) :=
  (((((h.set_ 0 v0 _ rfl).set_ 1 v1 _ rfl).set_ 2 v2 _ rfl).set_ 3 v3 _ rfl).set_ 4 v4 _ rfl)
theorem bel_st5 (h : Below B w0 w) (hk : B ≤ k) : Below B w0 (st5 k w v0 v1 v2 v3 v4) := ((((h.setCell hk _).setCell hk _).setCell hk _).setCell hk _).setCell hk _
theorem kp_st5 (hS : ¬ S k) : Kp S w (st5 k w v0 v1 v2 v3 v4) := ⟨by unfold st5; simp [World.setCell], fun b hb _ => by
  have hne : b ≠ k := fun e => hS (e ▸ hb)
  unfold st5
  rw [Below.heap_setCell _ ⟨k, 4, none⟩ _ b hne, Below.heap_setCell _ ⟨k, 3, none⟩ _ b hne, Below.heap_setCell _ ⟨k, 2, none⟩ _ b hne, Below.heap_setCell _ ⟨k, 1, none⟩ _ b hne, Below.heap_setCell _ ⟨k, 0, none⟩ _ b hne]⟩
end
abbrev RCT : Nat := 63
set_option maxRecDepth 100000 in
set_option maxHeartbeats 3200000 in
/-- Told hands a code on, its items laid anew. -/
theorem told_any (s : ByteArray) (a sl pr : Int) (xa : Option Addr) (xn xc : Nat) (l : List It) (w : World) (hl : Its (fun _ => True) w (.slice xa xn xc) l) (hc : LenI 2000000 l) :
    Calls Try.prog 14 #[.agg #[.string s, .int .i64 a, .int .i64 sl, .int .i64 pr, .slice xa xn xc]] w (fun e w' => Below w.heap.size w w' ∧ ∃ ya yc, e = .returned (.agg #[.string s, .int .i64 a, .int .i64 sl, .int .i64 pr, .slice ya xn yc]) ∧ Its (fun j => w.heap.size ≤ j) w' (.slice ya xn yc) l) := by
  have HXN := Lib.hid hl.len.1
  have hX := (alloc_bel w (.cells #[.string s, .int .i64 a, .int .i64 sl, .int .i64 pr, .slice xa xn xc] CDT)).trans ((alloc_bel (w.alloc (.cells #[.string s, .int .i64 a, .int .i64 sl, .int .i64 pr, .slice xa xn xc] CDT)) (.cells #[.string ⟨#[]⟩, .int .i64 0, .int .i64 0, .int .i64 0, .slice none 0 0] RCT)).mono (by simp))
  have hk := (Blk.made (T := CDT) (cs := #[.string s, .int .i64 a, .int .i64 sl, .int .i64 pr, .slice xa xn xc]) w).below (alloc_bel _ (.cells #[.string ⟨#[]⟩, .int .i64 0, .int .i64 0, .int .i64 0, .slice none 0 0] RCT)) (by simp)
  have hq := Blk.made (T := RCT) (cs := #[.string ⟨#[]⟩, .int .i64 0, .int .i64 0, .int .i64 0, .slice none 0 0]) (w.alloc (.cells #[.string s, .int .i64 a, .int .i64 sl, .int .i64 pr, .slice xa xn xc] CDT))
  have hs1 : (w.alloc (.cells #[.string s, .int .i64 a, .int .i64 sl, .int .i64 pr, .slice xa xn xc] CDT)).heap.size = w.heap.size + 1 := by simp
  rw [hs1] at hq
  have hl0 := hl.bel hX
  go_enter Try.func14, Try.ntmps14
  go_upto_region 1 with fail
  obtain ⟨W0, hal⟩ : ∃ W, (w.alloc (.cells #[.string s, .int .i64 a, .int .i64 sl, .int .i64 pr, .slice xa xn xc] CDT)).alloc (.cells #[.string ⟨#[]⟩, .int .i64 0, .int .i64 0, .int .i64 0, .slice none 0 0] RCT) = W := ⟨_, rfl⟩
  rw [hal] at hX hk hq hl0 ⊢
  obtain ⟨KM, hKM⟩ : ∃ b, w.heap.size = b := ⟨_, rfl⟩
  rw [hKM] at hk hq hX ⊢
  clear hal hs1
  have HX := Lib.hid hX
  have HK := Lib.hid hk
  have HQ := Lib.hid hq
  have HL := Lib.hid hl0
  have hkm := hk.lt
  have hqm := hq.lt
  have hS : ∀ v, Below W0.heap.size W0 v → (v.cell? ⟨KM, 0, none⟩ = some (.string s) ∧ v.cell? ⟨KM, 1, none⟩ = some (.int .i64 a) ∧ v.cell? ⟨KM, 2, none⟩ = some (.int .i64 sl) ∧ v.cell? ⟨KM, 3, none⟩ = some (.int .i64 pr) ∧ v.cell? ⟨KM, 4, none⟩ = some (.slice xa xn xc)) := fun v hv => by
    have h1 := HK.out.below hv HK.out.lt
    exact ⟨h1.c 0 _ rfl, h1.c 1 _ rfl, h1.c 2 _ rfl, h1.c 3 _ rfl, h1.c 4 _ rfl⟩
  clear hX hk hq hl0 hl
  have HBW : Hid (Below W0.heap.size W0 W0.drew) := Lib.hid (Below.refl _ W0).drew
  refine wp_region_noPanic ?_
  refine Hd.start (fun v => v.cell? ⟨KM, 0, none⟩ = some (.string s) ∧ v.cell? ⟨KM, 1, none⟩ = some (.int .i64 a) ∧ v.cell? ⟨KM, 2, none⟩ = some (.int .i64 sl) ∧ v.cell? ⟨KM, 3, none⟩ = some (.int .i64 pr) ∧ v.cell? ⟨KM, 4, none⟩ = some (.slice xa xn xc)) (by kernel_rfl) (hS _ HBW.out) (fun hH0 => ?_)
  obtain ⟨wd, hwd⟩ : ∃ W, W0.drew = W := ⟨_, rfl⟩
  rw [hwd] at HBW hH0 ⊢
  clear hwd
  refine Hd.tk 0 1 hH0 ?_
  refine Hd.tk 1 11 hH0 ?_
  refine Hd.tk 2 3 hH0 ?_
  refine Hd.tk 3 11 hH0 ?_
  refine Hd.tk 4 5 hH0 ?_
  refine Hd.tk 5 11 hH0 ?_
  refine Hd.tk 6 7 hH0 ?_
  refine Hd.tk 7 11 hH0 ?_
  refine Hd.tk 8 9 hH0 ?_
  refine Hd.tk 9 10 hH0 ?_
  refine Hd.on 10 (fun K hK => ?_)
  go_simp
  refine (items_any l hc _ wd (HL.out.bel HBW.out)).mono ?_; rintro e w6 ⟨hb6, v6, rfl, hO6⟩
  have hT6 := hO6.its
  have hlo6 : ∀ g, v6.ownBlock = some g → wd.heap.size ≤ g := fun g hg => (hO6.lt g hg).1
  obtain ⟨fo, fc, hv6, -, -⟩ := hT6.form
  rw [← HXN.out] at hv6
  subst hv6
  have hws := HBW.out.size
  have HB6 := Lib.hid (HBW.out.trans (hb6.mono hws))
  have HT6 := Lib.hid (hT6.mono (S' := fun b => W0.heap.size ≤ b) (fun b hb hl => by rcases hb with hb | hb; omega; have := hlo6 b hb; omega))
  clear hO6 hT6 hlo6 hb6
  go_wp2_with fail
  refine hK.out _ _ (hS _ HB6.out) (fun hH1 => ?_)
  clear hK K
  try simp only [Act.put, List.setIfInBounds_toArray, List.set_cons_zero, List.set_cons_succ]
  refine Hd.tk 11 12 hH1 ?_
  have hk6 := HQ.out.below HB6.out HQ.out.lt
  have c0 := hk6.c 0 _ rfl
  have c1 := hk6.c 1 _ rfl
  have c2 := hk6.c 2 _ rfl
  have c3 := hk6.c 3 _ rfl
  have c4 := hk6.c 4 _ rfl
  have cf := hk6.fz
  refine Hd.la 12 (fun K hK => ?_)
  go_simp
  refine hK.out _ _ ?_
  clear hK K
  try simp only [Act.put, List.setIfInBounds_toArray, List.set_cons_zero, List.set_cons_succ]
  simp only [NoPanic]
  obtain ⟨w9, hw9⟩ : ∃ X, ((((w6.setCell ⟨KM + 1, 0, none⟩ (.string s)).setCell ⟨KM + 1, 1, none⟩ (.int .i64 a)).setCell ⟨KM + 1, 2, none⟩ (.int .i64 sl)).setCell ⟨KM + 1, 3, none⟩ (.int .i64 pr)).setCell ⟨KM + 1, 4, none⟩ (.slice fo xn fc) = X := ⟨_, rfl⟩
  rw [hw9]
  have HB9 := Lib.hid (show Below KM w w9 by rw [← hw9]; exact bel_st5 (HX.out.trans (HB6.out.mono (by omega))) (by omega))
  have hk9 : Blk RCT (KM + 1) #[.string s, .int .i64 a, .int .i64 sl, .int .i64 pr, .slice fo xn fc] w9 := by rw [← hw9]; exact blk_st5 hk6
  have HT9 := Lib.hid (show Its (fun b => W0.heap.size ≤ b) w9 (.slice fo xn fc) l by rw [← hw9]; exact HT6.out.kp (kp_st5 (by omega)))
  have e0 := hk9.c 0 _ rfl
  have e1 := hk9.c 1 _ rfl
  have e2 := hk9.c 2 _ rfl
  have e3 := hk9.c 3 _ rfl
  have e4 := hk9.c 4 _ rfl
  clear c0 c1 c2 c3 c4 cf hk6 hw9 hS
  go_wp2_with fail
  refine bodyPost_ret (v := .agg #[.string s, .int .i64 a, .int .i64 sl, .int .i64 pr, .slice fo xn fc]) (by simp [results, Try.results14, go_sem, e0, e1, e2, e3, e4]) rfl ?_
  exact ⟨by rw [hKM]; exact HB9.out, _, _, rfl, HT9.out.mono (fun j hj _ => by omega)⟩
end Hp
end Go.Proofs.Ytojblndlchcjeaa
