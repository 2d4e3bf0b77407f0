/- Chapter 08, the walk: a town's at, symbol; Lay's closures root and list. -/
import Derived.Test.YtojblndlchcjeaaHpTu
import Derived.Laws.EntriesVeiled
import Derived.Shelf.Abstract
import Derived.Lib.ConvBytes
set_option linter.unusedVariables false
namespace Go.Proofs.Ytojblndlchcjeaa
open Go.RowKit
namespace Hp
open Bs Sm
set_option maxRecDepth 100000 in
set_option maxHeartbeats 1600000 in
theorem at_any' (B T sb root g m lc k wd : Nat) (vl : List OV) (x : OV) (w : World) (hw : Tw B T sb w (.slice (some ⟨g, 0, none⟩) m lc) vl root) (hc : Chain 2 (vl.map (·.1))) (hE : endL 2 (vl.map (·.1)) ≤ 100000) (hx : vl[k]? = some x) (hwd : x.1.at_ * 2 = wd) :
    Calls Try.prog 44 #[.pointer (some ⟨T, 0, none⟩), .int .u64 (wd : Int)] w (Back (.pointer (some ⟨g, k * 8, none⟩)) w) := by
  have hm : m = vl.length := by
    obtain ⟨a, c, e⟩ := hw.row.form
    cases e; rfl
  have hk := (List.getElem?_eq_some_iff.1 hx).1
  have hx2 : (vl.map (·.1))[k]? = some x.1 := by rw [List.getElem?_map, hx]; rfl
  have hat : ∀ o ∈ vl.map (·.1), o.at_ ≤ 16777216 := fun o ho => by
    obtain ⟨i, hi⟩ := List.getElem?_of_mem ho
    obtain ⟨e1, e2, e3⟩ := at_take hc hi
    omega
  have hidx : idxI (vl.map (·.1)) wd = (k : Int) := by unfold idxI; rw [← hwd, idx_at hc hx2]
  have hwl : wd < 18446744073709551616 := by
    have := hat x.1 (List.mem_of_getElem? hx2)
    omega
  have HF := Lib.hid (fun w hl => rfind_any (fun _ => True) 3000 0 wd (.slice (some ⟨g, 0, none⟩) m lc) (vl.map (·.1)) w hl hat hwl)
  rw [hidx] at HF
  unfold rhV at HF
  have hz : ((0 : Nat) : Int) = 0 := rfl
  have hz3 : ((3000 : Nat) : Int) = 3000 := rfl
  rw [hz, hz3] at HF
  have HW := Lib.hid hw
  have hkm : (k : Int) < (m : Int) := by omega
  have hkm' : k < m := by omega
  have hk0 : (0 : Int) ≤ (k : Int) := by omega
  have HS := Lib.hid (show ∀ v, Below w.heap.size w v → (v.cell? ⟨T, 0, none⟩ = some (.int .i64 3000) ∧ v.cell? ⟨T, 1, none⟩ = some (.slice (some ⟨g, 0, none⟩) m lc) ∧ v.cell? ⟨T, 2, none⟩ = some (.int .u32 0)) from fun v hb => by
    have q := (hw.bel hb).blk
    exact ⟨q.c 0 _ rfl, q.c 1 _ rfl, q.c 2 _ rfl⟩)
  clear hw hc hE hx hwd hm hk hx2 hat hidx hwl hz hz3
  go_enter Try.func44, Try.ntmps44
  go_wp2_with fail
  refine wp_region_noPanic ?_
  refine Hd.start (fun v => v.cell? ⟨T, 0, none⟩ = some (.int .i64 3000) ∧ v.cell? ⟨T, 1, none⟩ = some (.slice (some ⟨g, 0, none⟩) m lc) ∧ v.cell? ⟨T, 2, none⟩ = some (.int .u32 0)) (by kernel_rfl) (HS.out _ (below_drewN w 1)) (fun hH0 => ?_)
  refine Hd.tk 0 1 hH0 ?_
  refine Hd.tk 1 2 hH0 ?_
  refine Hd.tk 2 3 hH0 ?_
  refine Hd.tk 3 4 hH0 ?_
  refine Hd.tk 4 11 hH0 ?_
  refine Hd.tk 5 6 hH0 ?_
  refine Hd.tk 6 7 hH0 ?_
  refine Hd.tk 7 8 hH0 ?_
  refine Hd.tk 8 10 hH0 ?_
  refine Hd.tk 9 10 hH0 ?_
  refine Hd.on 10 (fun K hK => ?_)
  go_simp
  refine (HF.out _ (HW.out.bel (below_drewN w 1)).obs).mono ?_; rintro e w1 ⟨rfl, hb1⟩
  have HB1 := Lib.hid ((below_drewN w 1).trans (hb1.mono (below_drewN w 1).size))
  clear hb1
  refine hK.out _ _ (HS.out _ HB1.out) (fun hH1 => ?_)
  clear hK K
  try simp only [Act.put, List.setIfInBounds_toArray, List.set_cons_zero, List.set_cons_succ]
  refine Hd.tk 11 12 hH1 ?_
  refine Hd.la 12 (fun K hK => ?_)
  go_simp
  refine hK.out _ _ ?_
  clear hK K
  try simp only [Act.put, List.setIfInBounds_toArray, List.set_cons_zero, List.set_cons_succ]
  simp only [NoPanic]
  go_wp2_with fail
  go_ret
  exact ⟨rfl, HB1.out⟩
theorem bytesW_below (w : World) (e : TypeId) (t : ByteArray) : Below w.heap.size w (Lib.bytesWorld w e t) :=
  ⟨rfl, by simp [Lib.bytesWorld, World.freeze, World.alloc, World.drew, -World.alloc_eq, -World.drew_eq], rfl, by rw [Lib.bytesWorld_size]; omega, fun b hb => Lib.bytesWorld_at_old w e t b hb⟩
/-- []byte(s): a row that can be read. -/
theorem conv_bytes (w : World) (s : Bts) (hs : s.length ≤ 100000) : ∃ c W, (convert 9 48 (.string ⟨s.toArray⟩)).run Try.prog w = .ok (.slice (some ⟨w.heap.size, 0, none⟩) s.length c) W ∧ Below w.heap.size w W ∧ Rd (fun _ => True) byV W (.slice (some ⟨w.heap.size, 0, none⟩) s.length c) s := by
  have hcv := Lib.run_convert_string_bytes (P := Try.prog) w 9 48 YT (⟨s.toArray⟩ : ByteArray) (u := .string) (by kernel_rfl) (by kernel_rfl) (by kernel_rfl)
  have hsz : (⟨s.toArray⟩ : ByteArray).size = s.length := by simp [ByteArray.size]
  rw [hsz] at hcv
  refine ⟨_, _, hcv, bytesW_below _ _ _, _, _, rfl, grownCap_ge _ _ _ _, grownCap_le_maxLen _ _ _ _ (by unfold maxLen; omega), (fun h => by cases h), fun _ => ⟨w.heap.size, 0, rfl, trivial, by rw [Lib.bytesWorld_size]; omega, fun i x hx => ?_⟩⟩
  have hi := (List.getElem?_eq_some_iff.1 hx).1
  rw [Nat.zero_add, Lib.bytesWorld_cell _ _ _ _ (by rw [hsz]; exact hi)]
  unfold byV
  rw [List.getD_eq_getElem?_getD, show (⟨s.toArray⟩ : ByteArray).data.toList = s from rfl, hx]
  rfl
section
variable {κ α : Type} {P : Program} {kt et : TypeId} {b n k TB B e size m : Nat} {kl : κ → Lit} {ok : κ → Prop} {el : α → Lit} {z : α} {f : κ → α} {g : κ → Bool} {w w' : World} {cs : Array Value} {v : Value} {xs : List Value}
theorem blk_ne_map (h : Blk TB k cs w) (hm : MapOf P kt et kl ok el z b n f g w) : k ≠ b := by
  obtain ⟨D, ⟨es, c, h1, -⟩, -⟩ := hm
  rintro rfl
  unfold Blk at h
  rw [h] at h1
  cases h1
theorem own_ne_map (h : w.ownsRow B e size v m xs) (hm : MapOf P kt et kl ok el z b n f g w) : v.ownBlock = none ∨ v.ownBlock ≠ some b := by
  rcases h.2 with ⟨rfl, _⟩ | ⟨gg, c, cur, rfl, _, h2, _⟩
  · exact .inl rfl
  · refine .inr fun e => ?_
    have e : some gg = some b := e
    cases e
    exact blk_ne_map (TB := _) (cs := cur) h2 hm rfl
theorem blk_mapped (h : Blk TB k cs w) (hm : MapOf P kt et kl ok el z b n f g w) (hg : w.grownBy w' (some b)) : Blk TB k cs w' :=
  (hg.block k h.lt (fun e => blk_ne_map h hm (by cases e; rfl))).trans h
theorem own_mapped (h : w.ownsRow B e size v m xs) (hm : MapOf P kt et kl ok el z b n f g w) (hg : w.grownBy w' (some b)) : w'.ownsRow B e size v m xs := h.kept hg (own_ne_map h hm)
theorem Tw.mapped {T sb root : Nat} {lv : Value} {vl : List OV} (h : Tw B T sb w lv vl root) (hm : MapOf P kt et kl ok el z b n f g w) (hg : w.grownBy w' (some b)) : Tw B T sb w' lv vl root :=
  ⟨h.ge, blk_mapped h.blk hm hg, own_mapped h.row hm hg, fun x hx => ⟨own_mapped (h.rds x hx).1 hm hg, own_mapped (h.rds x hx).2 hm hg⟩⟩
end
abbrev MT : Nat := 101
abbrev SymM (sb n : Nat) (f : Bts → Int) (g : Bts → Bool) (w : World) : Prop := MapS Try.prog 9 UT .u64 sb n f g w
def SymN (B T sb root n : Nat) (vl : List OV) (f : Bts → Int) (g : Bts → Bool) (s : Bts) (w : World) (e : Ending) (w' : World) : Prop :=
  ∃ lv' bv', e = .returned (.int .u64 ((2 * endL 2 (vl.map (·.1)) : Nat) : Int)) ∧ Tw B T sb w' lv' (vl ++ [(addO vl 2 [] s, .slice none 0 0, bv')]) root ∧
    SymM sb (n + 1) (fun x => if x = s then ((2 * endL 2 (vl.map (·.1)) : Nat) : Int) else f x) (fun x => if x = s then true else g x) w' ∧ Tf B (fun b => b = sb) w w'
theorem zero_u64 (w : World) : (zeroValue UT).run Try.prog w = .ok (.int .u64 0) w := by
  kernel_rfl
theorem map_grown_tf {B k : Nat} {w w' : World} (hg : w.grownBy w' (some k)) (hB : B ≤ k) : Tf B (fun b => b = k) w w' :=
  ⟨hg.os, hg.tape, hg.output, hg.size, fun b hb hx => hg.block b hb (fun e => hx ⟨by cases e; exact hB, .inr (by cases e; rfl)⟩)⟩
set_option maxRecDepth 100000 in
set_option maxHeartbeats 3200000 in
theorem sym_new (B T sb root n : Nat) (vl : List OV) (lv : Value) (f : Bts → Int) (g : Bts → Bool) (s : Bts) (w : World) (hw : Tw B T sb w lv vl root) (hm : SymM sb n f g w) (hf : f s = 0) (hsb : B ≤ sb) (hn : n ≤ 100000)
    (hc : Chain 2 (vl.map (·.1))) (hok : ∀ x ∈ vl, okB x.1.hd = true) (hE : endL 2 (vl.map (·.1)) ≤ 100000) (hvl : vl.length ≤ 100000) (hs : s.length ≤ 100000) (hB : B ≤ w.heap.size) :
    Calls Try.prog 43 #[.pointer (some ⟨T, 0, none⟩), .string ⟨s.toArray⟩] w (SymN B T sb root n vl f g s w) := by
  have HA := Lib.hid (fun (bv : Value) (w' : World) (hw' : Tw B T sb w' lv vl root) (hbs : Rd (fun _ => True) byV w' bv s) (hB' : B ≤ w'.heap.size) => add_any B T sb root 2 vl lv (.slice none 0 0) bv [] s w' hw' hc hok hE hvl (show OwnU B w' (.slice none 0 0) [] from World.ownsRow_nil _ _ _ _) hbs ⟨by simp, by omega⟩ (by omega) hB')
  have hlk := MapS.look (mt := MT) hm (by kernel_rfl) (by kernel_rfl) (by kernel_rfl) (zero_u64 w) s (by unfold maxLen; omega)
  rw [hf] at hlk
  have c3 := hw.blk.c 3 _ rfl
  obtain ⟨cc, W1, hcv, b1, hrd⟩ := conv_bytes w.drew s hs
  have hE2 : 2 * endL 2 (vl.map (·.1)) ≤ 200000 := by omega
  obtain ⟨E, hEE⟩ : ∃ E, 2 * endL 2 (vl.map (·.1)) = E := ⟨_, rfl⟩
  have HE := Lib.hid hEE
  rw [hEE] at hE2
  obtain ⟨sl, hsl⟩ : ∃ sl, s.length = sl := ⟨_, rfl⟩
  have HW := Lib.hid hw
  have HM := Lib.hid hm
  have HB := Lib.hid hB
  have HSB := Lib.hid hsb
  have HNN := Lib.hid hn
  have HSL := Lib.hid hs
  have HB1 := Lib.hid ((below_drewN w 1).trans (b1.mono (below_drewN w 1).size))
  have HR := Lib.hid hrd
  have HS := Lib.hid (show ∀ v lv vl, Tw B T sb v lv vl root → v.cell? ⟨T, 3, none⟩ = some (.map (some sb)) from fun v lv vl h => h.blk.c 3 _ rfl)
  rw [hsl] at hcv HR
  clear hw hm hc hok hE hvl hB hsb hn b1 hrd hEE hf
  go_enter Try.func43, Try.ntmps43
  go_wp2_with fail
  refine wp_region_noPanic ?_
  refine Hd.start (fun v => v.cell? ⟨T, 3, none⟩ = some (.map (some sb))) (by kernel_rfl) (HS.out _ _ _ (HW.out.bel (below_drewN w 1))) (fun hH0 => ?_)
  refine Hd.tk 0 1 hH0 ?_
  refine Hd.tk 1 2 hH0 ?_
  refine Hd.tk 2 3 hH0 ?_
  refine Hd.tk 3 9 hH0 ?_
  refine Hd.tk 4 9 hH0 ?_
  refine Hd.tk 5 8 hH0 ?_
  refine Hd.tk 6 7 hH0 ?_
  refine Hd.on 7 (fun K hK => ?_)
  go_simp
  refine hK.out _ _ (HS.out _ _ _ (HW.out.bel HB1.out)) (fun hH1 => ?_)
  clear hK K
  try simp only [Act.put, List.setIfInBounds_toArray, List.set_cons_zero, List.set_cons_succ]
  refine Hd.on 8 (fun K hK => ?_)
  go_simp
  refine (HA.out _ _ (HW.out.bel HB1.out) HR.out (Nat.le_trans HB.out HB1.out.size)).mono ?_; rintro e w2 ⟨lv2, bv2, rfl, hT2, hf2⟩
  have hM2 := hf2.map (HM.out.bel HB1.out) (fun h => h)
  have HE64 : Hid ((Lit.int .u64 (E : Int)).wf = true) := Lib.hid (by
    have h1 : (IntKind.u64.min ≤ (E : Int)) := by show (0 : Int) ≤ _; omega
    have h2 : ((E : Int) ≤ IntKind.u64.max) := by show _ ≤ (18446744073709551615 : Int); omega
    simp [Lit.wf, h1, h2])
  obtain ⟨w3, hput, hM3, hg3⟩ := MapS.put (mt := MT) hM2 (by kernel_rfl) (by kernel_rfl) (by kernel_rfl) (by have := HNN.out; unfold maxLen; omega) s (by have := HSL.out; unfold maxLen; omega) (E : Int) HE64.out
  have hT3 := hT2.mapped hM2 hg3
  have c33 : w3.cell? ⟨T, 3, none⟩ = some (.map (some sb)) := hT3.blk.c 3 _ rfl
  have hlk3 := MapS.look (mt := MT) hM3 (by kernel_rfl) (by kernel_rfl) (by kernel_rfl) (zero_u64 w3) s (by have := HSL.out; unfold maxLen; omega)
  rw [if_pos rfl] at hlk3
  have HRes : Hid (Tw B T sb w3 lv2 (vl ++ [(addO vl 2 [] s, .slice none 0 0, bv2)]) root ∧ SymM sb (n + 1) (fun x => if x = s then (E : Int) else f x) (fun x => if x = s then true else g x) w3 ∧ Tf B (fun b => b = sb) w w3) :=
    Lib.hid ⟨hT3, hM3, ((Tf.of HB1.out).trans (hf2.mono (fun _ h => h.elim))).trans (map_grown_tf hg3 HSB.out)⟩
  rw [HE.out]
  have hS2 := HS.out _ _ _ hT2
  clear hT2 hf2 hM2 hM3 hg3 hT3
  refine hK.out _ _ hS2 (fun hH2 => ?_)
  clear hK K
  try simp only [Act.put, List.setIfInBounds_toArray, List.set_cons_zero, List.set_cons_succ]
  refine Hd.la 9 (fun K hK => ?_)
  go_simp
  refine hK.out _ _ ?_
  clear hK K
  try simp only [Act.put, List.setIfInBounds_toArray, List.set_cons_zero, List.set_cons_succ]
  simp only [NoPanic]
  go_wp2_with fail
  go_ret
  refine ⟨lv2, bv2, by rw [HE.out]; rfl, HRes.out.1, ?_, HRes.out.2.2⟩
  rw [HE.out]
  exact HRes.out.2.1
set_option maxRecDepth 100000 in
set_option maxHeartbeats 1600000 in
theorem sym_old (B T sb root n : Nat) (vl : List OV) (lv : Value) (f : Bts → Int) (g : Bts → Bool) (s : Bts) (x : Nat) (w : World) (hw : Tw B T sb w lv vl root) (hm : SymM sb n f g w) (hf : f s = (x : Int)) (hx : x ≠ 0) (hs : s.length ≤ 100000) :
    Calls Try.prog 43 #[.pointer (some ⟨T, 0, none⟩), .string ⟨s.toArray⟩] w (Done (.int .u64 (x : Int)) w) := by
  have hlk := MapS.look (mt := MT) hm (by kernel_rfl) (by kernel_rfl) (by kernel_rfl) (zero_u64 w) s (by unfold maxLen; omega)
  rw [hf] at hlk
  have c3 := hw.blk.c 3 _ rfl
  have hx1 : ((x : Int) == 0) = false := by simpa using hx
  have hx2 : (x == 0) = false := by simpa using hx
  clear hw hm hf hs
  go_enter Try.func43, Try.ntmps43
  go_wp2_with fail
  go_ret
  exact ⟨rfl, rfl⟩
/-! ### Lay's closures -/
abbrev BxM : Nat := 101
abbrev BxS : Nat := 25
abbrev BxU : Nat := 34
set_option maxRecDepth 100000 in
set_option maxHeartbeats 1600000 in
theorem root_any (B bc bn cm n i x gn cn : Nat) (f : Bts → Int) (g : Bts → Bool) (nm : List Bts) (s : Bts) (w : World) (hbc : Blk BxM bc #[.map (some cm)] w) (hbn : Blk BxS bn #[.slice (some ⟨gn, 0, none⟩) nm.length cn] w) (hn : w.ownsRow B ST1 1 (.slice (some ⟨gn, 0, none⟩) nm.length cn) nm.length (nm.map strV))
    (hm : SymM cm n f g w) (hi : 5 ≤ i ∧ i ≤ 1000) (hs : nm[i - 5]? = some s) (hsl : s.length ≤ 100000) (hf : f s = (x : Int)) :
    Calls Try.prog 40 #[.int .i64 (i : Int), .pointer (some ⟨bc, 0, none⟩), .pointer (some ⟨bn, 0, none⟩)] w (Back (.int .u64 (x : Int)) w) := by
  have hlk := MapS.look (mt := MT) hm (by kernel_rfl) (by kernel_rfl) (by kernel_rfl) (zero_u64 w) s (by unfold maxLen; omega)
  rw [hf] at hlk
  have c1 := hbc.c 0 _ rfl
  have c2 := hbn.c 0 _ rfl
  have hcell := strs_at hn (i - 5) s hs
  have hlt := (List.getElem?_eq_some_iff.1 hs).1
  obtain ⟨m, hm2⟩ : ∃ m, nm.length = m := ⟨_, rfl⟩
  rw [hm2] at c2 hlt
  obtain ⟨j, hj⟩ : ∃ j, i - 5 = j := ⟨_, rfl⟩
  rw [hj] at hcell hlt
  have hji : (i : Int) - 5 = (j : Int) := by omega
  have hlt2 : (j : Int) < (m : Int) := by omega
  have hj2 : (j : Int) ≤ 1000 := by omega
  have hi2 : (i : Int) ≤ 1000 := by omega
  have hw6 : IntKind.i64.wrap (j : Int) = (j : Int) := by rw [IntKind.wrap_i64]; omega
  have hj0 : (0 : Int) ≤ (j : Int) := by omega
  have hw5 : IntKind.i64.wrap ((i : Int) - 5) = (j : Int) := by rw [IntKind.wrap_i64]; omega
  have hHB := Lib.hid (below_drewN w 1)
  have HS := Lib.hid (show ∀ v, Below w.heap.size w v → (v.cell? ⟨bc, 0, none⟩ = some (.map (some cm)) ∧ v.cell? ⟨bn, 0, none⟩ = some (.slice (some ⟨gn, 0, none⟩) m cn) ∧ v.cell? ⟨gn, j, none⟩ = some (.string ⟨s.toArray⟩) ∧ (Instr.lookup MT (.map (some cm)) (.string ⟨s.toArray⟩) false).run Try.prog v = .ok (.int .u64 (x : Int)) v) from fun v hb => by
    refine ⟨(hbc.below hb hbc.lt).c 0 _ rfl, by rw [← hm2]; exact (hbn.below hb hbn.lt).c 0 _ rfl, ?_, ?_⟩
    · rw [← hj]; exact strs_at (own_below hn hb) (i - 5) s hs
    · have := MapS.look (mt := MT) (MapOf.bel hm hb) (by kernel_rfl) (by kernel_rfl) (by kernel_rfl) (zero_u64 v) s (by unfold maxLen; omega)
      rw [hf] at this
      exact this)
  clear hbc hbn hn hm hs hsl hf hm2 hj hi hlk c1 c2 hcell
  go_enter Try.func40, Try.ntmps40
  go_wp2_with fail
  refine wp_region_noPanic ?_
  refine Hd.start (fun v => v.cell? ⟨bc, 0, none⟩ = some (.map (some cm)) ∧ v.cell? ⟨bn, 0, none⟩ = some (.slice (some ⟨gn, 0, none⟩) m cn) ∧ v.cell? ⟨gn, j, none⟩ = some (.string ⟨s.toArray⟩) ∧ (Instr.lookup MT (.map (some cm)) (.string ⟨s.toArray⟩) false).run Try.prog v = .ok (.int .u64 (x : Int)) v) (by kernel_rfl) (HS.out _ hHB.out) (fun hH0 => ?_)
  refine Hd.tk 0 6 hH0 ?_
  refine Hd.tk 1 4 hH0 ?_
  refine Hd.tk 2 3 hH0 ?_
  refine Hd.tk 3 4 hH0 ?_
  refine Hd.tk 4 5 hH0 ?_
  refine Hd.tk 5 6 hH0 ?_
  refine Hd.tk 6 7 hH0 ?_
  refine Hd.la 7 (fun K hK => ?_)
  go_simp
  refine hK.out _ _ ?_
  clear hK K
  try simp only [Act.put, List.setIfInBounds_toArray, List.set_cons_zero, List.set_cons_succ]
  simp only [NoPanic]
  go_wp2_with fail
  go_ret
  exact ⟨rfl, hHB.out⟩
end Hp
end Go.Proofs.Ytojblndlchcjeaa
