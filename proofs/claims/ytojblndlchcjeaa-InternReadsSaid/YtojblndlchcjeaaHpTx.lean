/- Chapter 08, the walk: Lay's closure list. -/
import Derived.Test.YtojblndlchcjeaaHpTv
import Derived.Maps.AppendAt
set_option linter.unusedVariables false
namespace Go.Proofs.Ytojblndlchcjeaa
open Go.RowKit
namespace Hp
open Bs Sm
/-- append(l, u): where the new row lies. -/
theorem app_u1 {w : World} {B k u : Nat} {v : Value} {L : List Nat} (h : OwnU B w v L) (hx : Blk UT k #[.int .u64 (u : Int)] w) (hn : L.length ≤ 1000000) (hB : B ≤ w.heap.size) :
    ∃ v' w', (Builtin.append_ #[34, 34] 34 #[v, .slice (some ⟨k, 0, none⟩) 1 1]).run Try.prog w = .ok v' w' ∧ OwnU B w' v' (L ++ [u]) ∧ w.grownBy w' v.ownBlock ∧ (v'.ownBlock = v.ownBlock ∨ v'.ownBlock = some w.heap.size) := by
  obtain ⟨i0, hi0, hz0, hz1, hz2⟩ := ut_info
  obtain ⟨v', w', r1, r2, r3, -, r4⟩ := run_append_own_at (P := Try.prog) w B 34 34 UT i0 (.int .u64 0) 1 8 (by kernel_rfl) hi0 hz0 hz1 hz2 rfl (by omega) v L.length (L.map uV) h ⟨k, 0, none⟩ 1 1 [uV u] rfl (fun j x hj => by
    rw [addr_add]
    exact hx.c j x (by rw [List.getElem?_toArray]; exact hj)) (fun x hx => by
      obtain rfl := List.mem_singleton.1 hx
      rfl) (by unfold maxLen; omega) (by omega) hB
  refine ⟨v', w', r1, ?_, r3, r4⟩
  unfold OwnU
  rw [List.length_append, List.map_append]
  exact r2
/-- The lists' row is none of the objects' words. -/
def LApt (vl : List OV) (lsv : Value) : Prop := ∀ x ∈ vl, ∀ b, x.2.1.ownBlock = some b → lsv.ownBlock ≠ some b
section
variable {B T sb root k TB : Nat} {w w' : World} {lv lsv : Value} {vl : List OV} {LS : List Nat} {cs : Array Value}
theorem Tw.grownU (h : Tw B T sb w lv vl root) (hg : w.grownBy w' lsv.ownBlock) (ho : OwnU B w lsv LS) (ha : LApt vl lsv) : Tw B T sb w' lv vl root :=
  ⟨h.ge, blk_grown h.blk hg ho tyne.2.1, own_grown h.row hg ho tyne.2.2.1.symm, fun x hx => ⟨World.ownsRow.kept (h.rds x hx).1 hg (by
    cases hb : x.2.1.ownBlock with
    | none => exact .inl rfl
    | some b => exact .inr (fun e => ha x hx b hb e.symm)), own_grown (h.rds x hx).2 hg ho tyne.2.2.2.2.2.symm⟩⟩
theorem Tw.far (h : Tw B T sb w lv vl root) (hk : Blk TB k cs w) (h1 : TB ≠ TT) (h2 : TB ≠ OT) (h3 : TB ≠ UT) (h4 : TB ≠ YT) (i : Nat) (u : Value) : Tw B T sb (w.setCell ⟨k, i, none⟩ u) lv vl root :=
  ⟨h.ge, blk_set h.blk hk h1.symm i u, own_set h.row hk h2.symm i u, fun x hx => ⟨own_set (h.rds x hx).1 hk h3.symm i u, own_set (h.rds x hx).2 hk h4.symm i u⟩⟩
theorem grown_tfM {M : Nat → Prop} {size n e : Nat} {xs : List Value} (hg : w.grownBy w' lsv.ownBlock) (ho : w.ownsRow B e size lsv n xs) (hM : ∀ b, lsv.ownBlock = some b → M b) : Tf B M w w' :=
  ⟨hg.os, hg.tape, hg.output, hg.size, fun b hb hx => hg.block b hb fun e => hx ⟨(World.ownsRow.lt ho b e.symm).1, .inr (hM b e.symm)⟩⟩
theorem set_tfM {M : Nat → Prop} (i : Nat) (u : Value) (hB : B ≤ k) (hM : M k) : Tf B M w (w.setCell ⟨k, i, none⟩ u) :=
  ⟨rfl, rfl, rfl, by simp [World.setCell], fun j _ hb => Below.heap_setCell w ⟨k, i, none⟩ u j (fun e => hb (by
    have : j = k := e
    subst this
    exact ⟨hB, .inr hM⟩))⟩
end
abbrev PTT : Nat := 100
def ListR (B T sb root bl : Nat) (vl : List OV) (lsv : Value) (LS : List Nat) (w : World) (e : Ending) (w' : World) : Prop :=
  ∃ lv' bv' lsv', e = .returned (.int .u64 ((2 * endL 2 (vl.map (·.1)) : Nat) : Int)) ∧ Tw B T sb w' lv' (vl ++ [(addO vl 1 [] [], .slice none 0 0, bv')]) root ∧ Blk BxU bl #[lsv'] w' ∧ OwnU B w' lsv' (LS ++ [2 * endL 2 (vl.map (·.1))]) ∧
    Tf B (fun b => b = bl ∨ lsv.ownBlock = some b) w w' ∧ (∀ b, lsv'.ownBlock = some b → lsv.ownBlock = some b ∨ w.heap.size ≤ b)
set_option maxRecDepth 100000 in
set_option maxHeartbeats 3200000 in
theorem list_any (B T sb root bt bl : Nat) (vl : List OV) (lv lsv : Value) (LS : List Nat) (w : World) (hw : Tw B T sb w lv vl root) (hbt : Blk PTT bt #[.pointer (some ⟨T, 0, none⟩)] w) (hbl : Blk BxU bl #[lsv] w) (hls : OwnU B w lsv LS) (hap : LApt vl lsv) (hblB : B ≤ bl)
    (hc : Chain 2 (vl.map (·.1))) (hok : ∀ x ∈ vl, okB x.1.hd = true) (hE : endL 2 (vl.map (·.1)) ≤ 100000) (hvl : vl.length ≤ 100000) (hLS : LS.length ≤ 100000) (hB : B ≤ w.heap.size) :
    Calls Try.prog 41 #[.pointer (some ⟨bt, 0, none⟩), .pointer (some ⟨bl, 0, none⟩)] w (ListR B T sb root bl vl lsv LS w) := by
  have HA := Lib.hid (add_any (S := fun _ => True) B T sb root 1 vl lv (.slice none 0 0) (.slice none 0 0) [] [] w hw hc hok hE hvl (show OwnU B w (.slice none 0 0) [] from World.ownsRow_nil _ _ _ _) (Rd.nil _ _ _) ⟨by simp, by simp⟩ (by omega) hB)
  have HBT := Lib.hid hbt
  have HBL := Lib.hid hbl
  have c0 := hbt.c 0 _ rfl
  have c1 := hbl.c 0 _ rfl
  obtain ⟨la, lc, rfl⟩ := hls.form
  have HLS := Lib.hid hls
  have HAP := Lib.hid hap
  have HB := Lib.hid hB
  have HBB := Lib.hid hblB
  have HLL := Lib.hid hLS
  have hE2 : 2 * endL 2 (vl.map (·.1)) ≤ 200000 := by omega
  obtain ⟨E, hEE⟩ : ∃ E, 2 * endL 2 (vl.map (·.1)) = E := ⟨_, rfl⟩
  have HE := Lib.hid hEE
  rw [hEE] at hE2
  obtain ⟨ll, hll⟩ : ∃ ll, LS.length = ll := ⟨_, rfl⟩
  have HLn := Lib.hid hll
  rw [hll] at c1 HBL HLS HAP ⊢
  clear hw hbt hbl hls hap hblB hc hok hE hvl hLS hB hEE hll
  go_enter Try.func41, Try.ntmps41
  go_wp2_with fail
  refine HA.out.mono ?_; rintro e w2 ⟨lv2, bv2, rfl, hT2, hf2⟩
  rw [HE.out]
  have q2 := hf2.blk HBL.out (by decide) (by decide) (fun h => h)
  have o2 : OwnU B w2 (.slice la ll lc) LS := hf2.own HLS.out tyne.2.1 tyne.2.2.1 (fun _ _ h => h)
  obtain ⟨W3, hal3⟩ : ∃ W3, w2.alloc (.cells #[.int .u64 (E : Int)] UT) = W3 := ⟨_, rfl⟩
  have b3 : Below w2.heap.size w2 W3 := by rw [← hal3]; exact alloc_bel _ _
  have q3 : Blk UT w2.heap.size #[.int .u64 (E : Int)] W3 := by rw [← hal3]; exact Blk.made _
  have hB3 : B ≤ W3.heap.size := Nat.le_trans HB.out (Nat.le_trans hf2.size b3.size)
  have o3 := o2.bel b3
  obtain ⟨v4, w4, hrun, o4, hg4, hat4⟩ := app_u1 o3 q3 (by have := HLL.out; omega) hB3
  have ap2 : LApt (vl ++ [(addO vl 1 [] [], .slice none 0 0, bv2)]) (.slice la ll lc) := fun x hx b hb => by
    rcases List.mem_append.1 hx with hx | hx
    · exact HAP.out x hx b hb
    · obtain rfl := List.mem_singleton.1 hx
      cases hb
  have T4 := (hT2.bel b3).grownU hg4 o3 ap2
  have q4 := blk_grown (q2.below b3 q2.lt) hg4 o3 (show UT ≠ BxU by decide)
  have c4 : w4.cell? ⟨bl, 0, none⟩ = some (.slice la ll lc) := q4.c 0 _ rfl
  have z4 : w4.frozen? ⟨bl, 0, none⟩ = false := q4.fz 0
  obtain ⟨a4, c4', rfl⟩ := o4.form
  obtain ⟨l4, hl4⟩ : ∃ l4, (LS ++ [E]).length = l4 := ⟨_, rfl⟩
  rw [hl4] at hrun o4 hat4
  clear hl4
  have HR : Hid (Tw B T sb (w4.setCell ⟨bl, 0, none⟩ (.slice a4 l4 c4')) lv2 (vl ++ [(addO vl 1 [] [], .slice none 0 0, bv2)]) root ∧ Blk BxU bl #[.slice a4 l4 c4'] (w4.setCell ⟨bl, 0, none⟩ (.slice a4 l4 c4')) ∧ OwnU B (w4.setCell ⟨bl, 0, none⟩ (.slice a4 l4 c4')) (.slice a4 l4 c4') (LS ++ [E]) ∧
      Tf B (fun b => b = bl ∨ (Value.slice la ll lc).ownBlock = some b) w (w4.setCell ⟨bl, 0, none⟩ (.slice a4 l4 c4')) ∧ (∀ b, (Value.slice a4 l4 c4').ownBlock = some b → (Value.slice la ll lc).ownBlock = some b ∨ w.heap.size ≤ b)) := Lib.hid (by
    refine ⟨T4.far q4 (by decide) (by decide) (by decide) (by decide) 0 _, q4.set_ 0 _ _ rfl, own_set o4 q4 (show UT ≠ BxU by decide) 0 _, ?_, fun b hb => ?_⟩
    · exact (((hf2.mono (fun _ h => h.elim)).trans (Tf.of b3)).trans (grown_tfM hg4 o3 (fun b hb => .inr hb))).trans (set_tfM 0 _ HBB.out (.inl rfl))
    · rcases hat4 with h | h
      · exact .inl (h ▸ hb)
      · rw [h] at hb
        cases hb
        exact .inr (Nat.le_trans hf2.size b3.size))
  have HRun := Lib.hid hrun
  have c12 : w2.cell? ⟨bl, 0, none⟩ = some (.slice la ll lc) := q2.c 0 _ rfl
  have c13 : W3.cell? ⟨bl, 0, none⟩ = some (.slice la ll lc) := (q2.below b3 q2.lt).c 0 _ rfl
  clear hT2 hf2 q2 o2 b3 q3 hB3 o3 o4 hg4 hat4 ap2 T4 q4 hrun
  go_wp2_with (at_builtin; refine wpList_app rfl _ _ _ rfl _ _ _ _ rfl rfl HRun.out ?_)
  go_ret
  refine ⟨lv2, bv2, _, by rw [HE.out]; rfl, HR.out.1, HR.out.2.1, ?_, HR.out.2.2.2⟩
  rw [HE.out]
  exact HR.out.2.2.1
end Hp
end Go.Proofs.Ytojblndlchcjeaa
