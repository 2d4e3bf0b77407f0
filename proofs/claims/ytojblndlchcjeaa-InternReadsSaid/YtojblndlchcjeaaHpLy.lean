/- Chapter 08, the walk: Lay. -/
import Derived.Test.YtojblndlchcjeaaHpMa
import Derived.Deep.CutBlock
import Derived.Deep.LoopGhost
set_option linter.unusedVariables false
namespace Go.Proofs.Ytojblndlchcjeaa
open Go.RowKit
open Go.Maps
namespace Hp
open Bs Sm
abbrev XT : Nat := 24
def iV (x : Int) : Value := .int .i64 x
def KernR (w : World) (e : Ending) (w' : World) : Prop := ∃ v, e = .returned v ∧ OwnS w.heap.size w' v kernelL ∧ Below w.heap.size w w'
set_option maxRecDepth 100000 in
theorem kernel_any (w : World) : Calls Try.prog 8 #[] w (KernR w) := by
  have hb := alloc_bel w (.cells (kernelL.map strV).toArray ST1)
  have ho : (w.alloc (.cells (kernelL.map strV).toArray ST1)).ownsRow w.heap.size ST1 1 (.slice (some ⟨w.heap.size, 0, none⟩) 16 16) 16 (kernelL.map strV) := by
    have := World.ownsRow_lit (base := w.heap.size) (e := ST1) (size := 1) w (kernelL.map strV).toArray 16 (Nat.le_refl _) (by unfold maxLen; omega) (by kernel_rfl)
    simpa using this
  have HB := Lib.hid hb
  have HO := Lib.hid ho
  clear hb ho
  go_enter Try.func8, Try.ntmps8
  go_wp2_with fail
  go_ret
  exact ⟨_, rfl, HO.out, HB.out⟩
set_option maxRecDepth 100000 in
theorem conv_rune (w : World) : ∀ k, k < 6 → (convert 21 9 (.int .i32 (97 + (k : Nat) : Int))).run Try.prog w = .ok (.string ⟨#[UInt8.ofNat (97 + k)]⟩) w
  | 0, _ => by kernel_rfl
  | 1, _ => by kernel_rfl
  | 2, _ => by kernel_rfl
  | 3, _ => by kernel_rfl
  | 4, _ => by kernel_rfl
  | 5, _ => by kernel_rfl
  | k + 6, h => by omega
/-- What stays in Lay, from its beginning on. -/
structure L0 (B br sb T bt : Nat) (sv fv : Value) (w0 w : World) : Prop where
  bel : Below B w0 w
  ord : B < br ∧ br < sb ∧ sb < T ∧ T < bt ∧ bt < w.heap.size
  x : Blk XT B #[sv, fv] w
  r : Blk RHT br #[.int .i64 0, .slice none 0 0, .int .u32 0] w
  t : Blk PTT bt #[.pointer (some ⟨T, 0, none⟩)] w
theorem L0.tf {B br sb T bt : Nat} {sv fv : Value} {w0 w w' : World} {M : Nat → Prop} (h : L0 B br sb T bt sv fv w0 w) (hf : Tf B M w w') (h1 : ¬ M B) (h2 : ¬ M br) (h3 : ¬ M bt) : L0 B br sb T bt sv fv w0 w' :=
  ⟨h.bel.trans (hf.bel' (Nat.le_refl _) (by have := h.ord; omega)), ⟨h.ord.1, h.ord.2.1, h.ord.2.2.1, h.ord.2.2.2.1, Nat.lt_of_lt_of_le h.ord.2.2.2.2 hf.size⟩, hf.blk h.x (by decide) (by decide) h1, hf.blk h.r (by decide) (by decide) h2, hf.blk h.t (by decide) (by decide) h3⟩
section
variable {κ α : Type} {P : Program} {kt et : TypeId} {kl : κ → Lit} {ok : κ → Prop} {el : α → Lit} {z : α} {f : κ → α} {g : κ → Bool} {B br sb T bt e size m k TB b cnt root : Nat} {sv fv v lv : Value} {vl : List OV} {xs : List Value} {cs : Array Value} {w0 w w' : World}
theorem L0.grown (h : L0 B br sb T bt sv fv w0 w) (hg : w.grownBy w' v.ownBlock) (ho : w.ownsRow B e size v m xs) (h1 : e ≠ XT) (h2 : e ≠ RHT) (h3 : e ≠ PTT) : L0 B br sb T bt sv fv w0 w' :=
  ⟨h.bel.grown hg (by have := h.ord; omega) (fun k hk => (World.ownsRow.lt ho k hk).1), ⟨h.ord.1, h.ord.2.1, h.ord.2.2.1, h.ord.2.2.2.1, Nat.lt_of_lt_of_le h.ord.2.2.2.2 hg.size⟩, blk_grown h.x hg ho h1, blk_grown h.r hg ho h2, blk_grown h.t hg ho h3⟩
theorem L0.far (h : L0 B br sb T bt sv fv w0 w) (hk : Blk TB k cs w) (hB : B ≤ k) (h1 : TB ≠ XT) (h2 : TB ≠ RHT) (h3 : TB ≠ PTT) (i : Nat) (u : Value) : L0 B br sb T bt sv fv w0 (w.setCell ⟨k, i, none⟩ u) :=
  ⟨h.bel.setCell hB u, by have := h.ord; simpa [World.setCell] using this, blk_set h.x hk h1.symm i u, blk_set h.r hk h2.symm i u, blk_set h.t hk h3.symm i u⟩
theorem L0.bel_ (h : L0 B br sb T bt sv fv w0 w) (hb : Below w.heap.size w w') : L0 B br sb T bt sv fv w0 w' := h.tf (M := fun _ => False) (Tf.of hb) (fun h => h) (fun h => h) (fun h => h)
theorem Tw.grownG (h : Tw B T sb w lv vl root) (hg : w.grownBy w' v.ownBlock) (ho : w.ownsRow B e size v m xs) (h1 : e ≠ TT) (h2 : e ≠ OT) (h3 : e ≠ UT) (h4 : e ≠ YT) : Tw B T sb w' lv vl root :=
  ⟨h.ge, blk_grown h.blk hg ho h1, own_grown h.row hg ho h2.symm, fun x hx => ⟨own_grown (h.rds x hx).1 hg ho h3.symm, own_grown (h.rds x hx).2 hg ho h4.symm⟩⟩
theorem map_grown (h : MapOf P kt et kl ok el z b cnt f g w) (hg : w.grownBy w' v.ownBlock) (ho : w.ownsRow B e size v m xs) : MapOf P kt et kl ok el z b cnt f g w' :=
  h.block (hg.block b h.lt (fun e => by
    rcases own_ne_map ho h with h' | h'
    · rw [h'] at e; cases e
    · exact h' e.symm))
theorem map_far (h : MapOf P kt et kl ok el z b cnt f g w) (hk : Blk TB k cs w) (i : Nat) (u : Value) : MapOf P kt et kl ok el z b cnt f g (w.setCell ⟨k, i, none⟩ u) :=
  h.block (Below.heap_setCell w ⟨k, i, none⟩ u b (fun e => blk_ne_map hk h (by have : b = k := e; exact this.symm)))
end
def namK (k : Nat) : List Bts := kernelL ++ (List.range k).map ownN
/-- The names. -/
structure Ln (B bt bn : Nat) (nv : Value) (l : List Bts) (w : World) : Prop where
  lt : bt < bn
  bx : Blk BxS bn #[nv] w
  row : OwnS B w nv l
theorem Ln.tf {B bt bn : Nat} {nv : Value} {l : List Bts} {w w' : World} {M : Nat → Prop} (h : Ln B bt bn nv l w) (hf : Tf B M w w') (h1 : ¬ M bn) (h2 : ∀ b, nv.ownBlock = some b → ¬ M b) : Ln B bt bn nv l w' :=
  ⟨h.lt, hf.blk h.bx (by decide) (by decide) h1, hf.own h.row (by decide) (by decide) h2⟩
section
variable {κ α : Type} {P : Program} {kt et : TypeId} {kl : κ → Lit} {ok : κ → Prop} {el : α → Lit} {z : α} {f : κ → α} {g : κ → Bool} {B br sb T bt bn b cnt root : Nat} {sv fv nv lv : Value} {vl : List OV} {l : List Bts} {w0 w w' : World}
theorem L0.mapped (h : L0 B br sb T bt sv fv w0 w) (hm : MapOf P kt et kl ok el z b cnt f g w) (hg : w.grownBy w' (some b)) (hB : B ≤ b) : L0 B br sb T bt sv fv w0 w' :=
  ⟨h.bel.grown hg (by have := h.ord; omega) (fun k hk => by cases hk; exact hB), ⟨h.ord.1, h.ord.2.1, h.ord.2.2.1, h.ord.2.2.2.1, Nat.lt_of_lt_of_le h.ord.2.2.2.2 hg.size⟩, blk_mapped h.x hm hg, blk_mapped h.r hm hg, blk_mapped h.t hm hg⟩
theorem Ln.mapped (h : Ln B bt bn nv l w) (hm : MapOf P kt et kl ok el z b cnt f g w) (hg : w.grownBy w' (some b)) : Ln B bt bn nv l w' := ⟨h.lt, blk_mapped h.bx hm hg, own_mapped h.row hm hg⟩
theorem Ln.bel (h : Ln B bt bn nv l w) (hb : Below w.heap.size w w') : Ln B bt bn nv l w' := ⟨h.lt, h.bx.below hb h.bx.lt, own_below h.row hb⟩
theorem Tw.setRoot (h : Tw B T sb w lv vl root) (r : Nat) : Tw B T sb (w.setCell ⟨T, 4, none⟩ (.int .u64 (r : Int))) lv vl r ∧ Tf B (fun _ => False) w (w.setCell ⟨T, 4, none⟩ (.int .u64 (r : Int))) :=
  ⟨⟨h.ge, h.blk.set_ 4 _ _ rfl, own_set h.row h.blk tyne.1.symm 4 _, fun x hx => ⟨own_set (h.rds x hx).1 h.blk tyne.2.1 4 _, own_set (h.rds x hx).2 h.blk tyne.2.2.2.1 4 _⟩⟩, (Tf.refl B _ w).set_ h.blk h.ge (.inl rfl) 4 _⟩
end
theorem mk_u (k : Nat) (hk : k ≤ 24) (w : World) : (Instr.makeSlice 34 (.int .i64 (k : Int)) (.int .i64 (k : Int))).run Try.prog w = .ok (.slice (some ⟨w.heap.size, 0, none⟩) k k) (w.alloc (.cells (Array.replicate k (.int .u64 0)) UT)) := by
  obtain ⟨i0, hi0, hz0, hz1, hz2⟩ := ut_info
  have := make_row (P := Try.prog) 34 UT i0 (.int .u64 0) (by kernel_rfl) hi0 hz0 hz1 rfl .i64 .i64 k (by rw [hz2]; omega) (by unfold maxLen; omega) w
  simpa using this
theorem mk24 (w : World) : (Instr.makeSlice 34 (.int .i64 24) (.int .i64 24)).run Try.prog w = .ok (.slice (some ⟨w.heap.size, 0, none⟩) 24 24) (w.alloc (.cells (Array.replicate 24 (.int .u64 0)) UT)) := mk_u 24 (by omega) w
theorem mk5 (w : World) : (Instr.makeSlice 34 (.int .i64 5) (.int .i64 5)).run Try.prog w = .ok (.slice (some ⟨w.heap.size, 0, none⟩) 5 5) (w.alloc (.cells (Array.replicate 5 (.int .u64 0)) UT)) := mk_u 5 (by omega) w
theorem own_zer {w : World} {B : Nat} (k : Nat) (hk : k ≤ 24) (hB : B ≤ w.heap.size) : OwnU B (w.alloc (.cells (Array.replicate k (.int .u64 0)) UT)) (.slice (some ⟨w.heap.size, 0, none⟩) k k) (zer k) := by
  have hq : Blk UT w.heap.size (rowV uV (zer k)) (w.alloc (.cells (Array.replicate k (.int .u64 0)) UT)) := by
    have e : rowV uV (zer k) = Array.replicate k (.int .u64 0) := by unfold rowV zer; rw [List.map_replicate]; simp [uV]
    rw [e]
    exact Blk.made w
  have := own_blk (f := uV) hq hB (by unfold zer maxLen; rw [List.length_replicate]; omega)
  have e2 : (zer k).length = k := by unfold zer; rw [List.length_replicate]
  unfold OwnU
  rw [e2] at this ⊢
  exact this
def LayR (n : Nat) (sup flds : List Int) (w : World) (e : Ending) (w' : World) : Prop :=
  ∃ lv vl, e = .returned (.tuple #[rhV 3000 lv 0, .int .u64 4]) ∧ vl.map (·.1) = layL n sup flds ∧ OwnO w.heap.size w' lv vl ∧ (∀ x ∈ vl, OwnU w.heap.size w' x.2.1 x.1.words ∧ OwnY w.heap.size w' x.2.2 x.1.bytes) ∧ Below w.heap.size w w'
set_option maxRecDepth 100000 in
set_option maxHeartbeats 400000000 in
theorem lay_any (sup flds : List Int) (sv fv : Value) (w : World) (hsv : Rd (fun b => b < w.heap.size) iV w sv sup) (hfv : Rd (fun b => b < w.heap.size) iV w fv flds)
    (hsr : ∀ x ∈ sup, -9223372036854775808 ≤ x ∧ x < 9223372036854775808) (hfr : ∀ x ∈ flds, -9223372036854775808 ≤ x ∧ x < 9223372036854775808) :
    Calls Try.prog 19 #[.agg #[sv, fv]] w (LayR (min sup.length 6) sup flds w) := by
  have HK := Lib.hid kernel_any
  have HSR := Lib.hid hsr
  have HFR := Lib.hid hfr
  obtain ⟨sa, sc, rfl, -, -⟩ := hsv.form
  obtain ⟨fa, fc, rfl, -, -⟩ := hfv.form
  have HSV := Lib.hid hsv
  have HFV := Lib.hid hfv
  obtain ⟨sl, hsl⟩ : ∃ m, sup.length = m := ⟨_, rfl⟩
  obtain ⟨fl, hfl⟩ : ∃ m, flds.length = m := ⟨_, rfl⟩
  rw [hsl] at HSV
  rw [hfl] at HFV
  have HSL := Lib.hid hsl
  have HFL := Lib.hid hfl
  rw [hsl, hfl]
  have hmm := @run_makeMap Try.prog
  obtain ⟨W1, hal1⟩ : ∃ W1, w.alloc (.cells #[.slice sa sl sc, .slice fa fl fc] XT) = W1 := ⟨_, rfl⟩
  obtain ⟨W2, hal2⟩ : ∃ W2, W1.alloc (.cells #[.int .i64 0, .slice none 0 0, .int .u32 0] RHT) = W2 := ⟨_, rfl⟩
  obtain ⟨W3, hal3⟩ : ∃ W3, W2.alloc (.map #[] 0) = W3 := ⟨_, rfl⟩
  obtain ⟨W4, hal4⟩ : ∃ W4, W3.alloc (.cells #[.int .i64 3000, .slice none 0 0, .int .u32 0, .map (some W2.heap.size), .int .u64 0] TT) = W4 := ⟨_, rfl⟩
  obtain ⟨W5, hal5⟩ : ∃ W5, W4.alloc (.cells #[.pointer (some ⟨W3.heap.size, 0, none⟩)] PTT) = W5 := ⟨_, rfl⟩
  clear hsv hfv hsl hfl hsr hfr
  go_enter Try.func19, Try.ntmps19
  go_wp2_with fail
  refine (HK.out W5).mono ?_; rintro e w6 ⟨kv, rfl, hkv, hb6⟩
  obtain ⟨ka, kc, rfl⟩ := hkv.form
  have hk16 : kernelL.length = 16 := rfl
  rw [hk16] at hkv ⊢
  clear hk16
  obtain ⟨W7, hal7⟩ : ∃ W7, w6.alloc (.cells #[.slice ka 16 kc] BxS) = W7 := ⟨_, rfl⟩
  have b1 : Below w.heap.size w W1 := by rw [← hal1]; exact alloc_bel _ _
  have b2 : Below W1.heap.size W1 W2 := by rw [← hal2]; exact alloc_bel _ _
  have b3 : Below W2.heap.size W2 W3 := by rw [← hal3]; exact alloc_bel _ _
  have b4 : Below W3.heap.size W3 W4 := by rw [← hal4]; exact alloc_bel _ _
  have b5 : Below W4.heap.size W4 W5 := by rw [← hal5]; exact alloc_bel _ _
  have b7 : Below w6.heap.size w6 W7 := by rw [← hal7]; exact alloc_bel _ _
  have s1 : W1.heap.size = w.heap.size + 1 := by rw [← hal1]; simp
  have s2 : W2.heap.size = W1.heap.size + 1 := by rw [← hal2]; simp
  have s3 : W3.heap.size = W2.heap.size + 1 := by rw [← hal3]; simp
  have s4 : W4.heap.size = W3.heap.size + 1 := by rw [← hal4]; simp
  have s5 : W5.heap.size = W4.heap.size + 1 := by rw [← hal5]; simp
  have s7 : W7.heap.size = w6.heap.size + 1 := by rw [← hal7]; simp
  have b37 : Below W3.heap.size W3 W7 := ((b4.trans (b5.mono b4.size)).trans (hb6.mono (by omega))).trans (b7.mono (by have := hb6.size; omega))
  have b27 : Below W2.heap.size W2 W7 := b3.trans (b37.mono (by omega))
  have b17 : Below W1.heap.size W1 W7 := b2.trans (b27.mono (by omega))
  have b07 : Below w.heap.size w W7 := b1.trans (b17.mono (by omega))
  have b57 : Below W5.heap.size W5 W7 := hb6.trans (b7.mono hb6.size)
  have b47 : Below W4.heap.size W4 W7 := b5.trans (b57.mono (by omega))
  have hL0 : L0 w.heap.size W1.heap.size W2.heap.size W3.heap.size W4.heap.size (.slice sa sl sc) (.slice fa fl fc) w W7 := by
    have q1 : Blk XT w.heap.size #[.slice sa sl sc, .slice fa fl fc] W1 := by rw [← hal1]; exact Blk.made _
    have q2 : Blk RHT W1.heap.size #[.int .i64 0, .slice none 0 0, .int .u32 0] W2 := by rw [← hal2]; exact Blk.made _
    have q5 : Blk PTT W4.heap.size #[.pointer (some ⟨W3.heap.size, 0, none⟩)] W5 := by rw [← hal5]; exact Blk.made _
    have := hb6.size
    exact ⟨b07, ⟨by omega, by omega, by omega, by omega, by omega⟩, q1.below b17 (by omega), q2.below b27 (by omega), q5.below b57 (by omega)⟩
  have hTw : Tw w.heap.size W3.heap.size W2.heap.size W7 (.slice none 0 0) [] 0 := by
    have q4 : Blk TT W3.heap.size #[.int .i64 3000, .slice none 0 0, .int .u32 0, .map (some W2.heap.size), .int .u64 0] W4 := by rw [← hal4]; exact Blk.made _
    exact ⟨by omega, q4.below b47 (by omega), World.ownsRow_nil _ _ _ _, fun x hx => by cases hx⟩
  have hSm : SymM W2.heap.size 0 (fun _ => 0) (fun _ => false) W7 := by
    have : SymM W2.heap.size 0 (fun _ => 0) (fun _ => false) W3 := by rw [← hal3]; exact MapOf.made _ _ _ _ _ _ _ _
    exact this.bel b37
  have hLn : Ln w.heap.size W4.heap.size w6.heap.size (.slice ka 16 kc) (namK 0) W7 := by
    have q7 : Blk BxS w6.heap.size #[.slice ka 16 kc] W7 := by rw [← hal7]; exact Blk.made _
    have := hb6.size
    exact ⟨by omega, q7, by unfold namK; rw [List.range_zero, List.map_nil, List.append_nil]; exact own_mono (own_below hkv b7) (by omega)⟩
  obtain ⟨br, hbr⟩ : ∃ b, W1.heap.size = b := ⟨_, rfl⟩
  obtain ⟨sb, hsb⟩ : ∃ b, W2.heap.size = b := ⟨_, rfl⟩
  obtain ⟨T, hT⟩ : ∃ b, W3.heap.size = b := ⟨_, rfl⟩
  obtain ⟨bt, hbt⟩ : ∃ b, W4.heap.size = b := ⟨_, rfl⟩
  obtain ⟨bn, hbn⟩ : ∃ b, w6.heap.size = b := ⟨_, rfl⟩
  rw [hbr, hsb, hT, hbt] at hL0
  rw [hsb, hT] at hTw
  rw [hsb] at hSm
  rw [hbt, hbn] at hLn
  have HI0 : Hid (L0 w.heap.size br sb T bt (.slice sa sl sc) (.slice fa fl fc) w W7 ∧ Tw w.heap.size T sb W7 (.slice none 0 0) [] 0 ∧ SymM sb 0 (fun _ => 0) (fun _ => false) W7) := Lib.hid ⟨hL0, hTw, hSm⟩
  have HLN := Lib.hid hLn
  have HORD := Lib.hid hL0.ord
  have c70 : W7.cell? ⟨w.heap.size, 0, none⟩ = some (.slice sa sl sc) := hL0.x.c 0 _ rfl
  clear b1 b2 b3 b4 b5 b7 s1 s2 s3 s4 s5 s7 b37 b27 b17 b07 b57 b47 hL0 hTw hSm hLn hb6 hkv
  go_upto_block 0 with fail
  clear hal1 hal2 hal3 hal4 hal5 hal7 hbr hsb hT hbt hbn hmm c70
  obtain ⟨n, hn⟩ : ∃ n, min sl 6 = n := ⟨_, rfl⟩
  have hn6 : n ≤ 6 := by omega
  have hnsl : n ≤ sl := by omega
  have hnc : n = 6 ∨ n = sl := by omega
  rw [hn]
  go_cut [6] from 44 to 62 (fun s6 wx => ∃ nv, Hid (L0 w.heap.size br sb T bt (.slice sa sl sc) (.slice fa fl fc) w wx ∧ Tw w.heap.size T sb wx (.slice none 0 0) [] 0 ∧ SymM sb 0 (fun _ => 0) (fun _ => false) wx ∧ Ln w.heap.size bt bn nv (namK n) wx))
  case first =>
   as_aux_lemma =>
   go_wp2_with fail
   go_loopw [6] (fun y wr => ∃ (k : Nat), y = .int .i64 (k : Int) ∧ k ≤ n ∧ ∃ nv, Hid (L0 w.heap.size br sb T bt (.slice sa sl sc) (.slice fa fl fc) w wr ∧ Tw w.heap.size T sb wr (.slice none 0 0) [] 0 ∧ SymM sb 0 (fun _ => 0) (fun _ => false) wr ∧ Ln w.heap.size bt bn nv (namK k) wr)) (fun y _ => n - (intOf y).toNat)
   case atStart => exact ⟨0, rfl, Nat.zero_le _, _, Lib.hid ⟨HI0.out.1, HI0.out.2.1, HI0.out.2.2, HLN.out⟩⟩
   case round =>
     obtain ⟨k, rfl, hk, nv, hI⟩ := hrel
     have cx : wr.cell? ⟨w.heap.size, 0, none⟩ = some (.slice sa sl sc) := hI.out.1.x.c 0 _ rfl
     have cn : wr.cell? ⟨bn, 0, none⟩ = some nv := hI.out.2.2.2.bx.c 0 _ rfl
     have hk6 : (k : Int) ≤ 6 := by omega
     by_cases hkn : k < n
     · have e1 : decide ((k : Int) < (sl : Int)) = true := decide_eq_true (by omega)
       have e2 : decide ((k : Int) < 6) = true := decide_eq_true (by omega)
       have e3 : decide (k < sl) = true := decide_eq_true (by omega)
       have e4 : decide (k < 6) = true := decide_eq_true (by omega)
       obtain ⟨c, hc⟩ : ∃ c : Int, 97 + (k : Int) = c := ⟨_, rfl⟩
       obtain ⟨u, hu⟩ : ∃ u, UInt8.ofNat (97 + k) = u := ⟨_, rfl⟩
       have hw1 : IntKind.i64.wrap c = c := by rw [IntKind.wrap_i64]; omega
       have hw2 : IntKind.i32.wrap c = c := by rw [IntKind.wrap_i32]; omega
       have hcv := fun w => conv_rune w k (by omega)
       rw [hc, hu] at hcv
       have HC := Lib.hid hc
       have hown : ownN k = [79, 119, 110, u] := by unfold ownN; rw [hu]
       obtain ⟨na, nc, rfl⟩ := hI.out.2.2.2.row.form
       obtain ⟨nl, hnl⟩ : ∃ m, (namK k).length = m := ⟨_, rfl⟩
       have hnl2 : nl ≤ 22 := by rw [← hnl]; unfold namK; rw [List.length_append, List.length_map, List.length_range]; show 16 + k ≤ 22; omega
       have HI : Hid (L0 w.heap.size br sb T bt (.slice sa sl sc) (.slice fa fl fc) w wr ∧ Tw w.heap.size T sb wr (.slice none 0 0) [] 0 ∧ SymM sb 0 (fun _ => 0) (fun _ => false) wr ∧ Ln w.heap.size bt bn (.slice na nl nc) (namK k) wr) := Lib.hid (by rw [← hnl]; exact hI.out)
       rw [hnl] at cn
       have HNL := Lib.hid hnl
       clear hI hnl
       obtain ⟨sS, hsS⟩ : ∃ sS : ByteArray, (⟨#[79, 119, 110]⟩ : ByteArray) ++ ⟨#[u]⟩ = sS := ⟨_, rfl⟩
       have hsS2 : sS = ⟨(ownN k).toArray⟩ := by rw [← hsS, hown]; rfl
       obtain ⟨W8, hal8⟩ : ∃ W8, wr.alloc (.cells #[.string sS] ST1) = W8 := ⟨_, rfl⟩
       have b8 : Below wr.heap.size wr W8 := by rw [← hal8]; exact alloc_bel _ _
       have hrd : Rd (fun b => b = wr.heap.size) strV W8 (.slice (some ⟨wr.heap.size, 0, none⟩) 1 1) [ownN k] := by
         rw [← hal8, hsS2]
         exact rd_one wr (ownN k)
       have hBw : w.heap.size ≤ wr.heap.size := HI.out.1.bel.size
       have hB8 : w.heap.size ≤ W8.heap.size := Nat.le_trans hBw b8.size
       have o8 : OwnS w.heap.size W8 (.slice na nl nc) (namK k) := own_below HI.out.2.2.2.row b8
       obtain ⟨v9, w9, hrun, o9, hg9⟩ := app_s o8 hrd (by rw [HNL.out]; simp only [List.length_cons, List.length_nil]; omega) hB8
       obtain ⟨a9, c9, rfl⟩ := o9.form
       obtain ⟨l9, hl9⟩ : ∃ m, (namK k ++ [ownN k]).length = m := ⟨_, rfl⟩
       rw [hl9] at hrun o9
       clear hl9
       have hnk : namK (k + 1) = namK k ++ [ownN k] := by unfold namK; rw [List.range_succ, List.map_append, List.append_assoc]; rfl
       have q9 := blk_grown (HI.out.2.2.2.bx.below b8 HI.out.2.2.2.bx.lt) hg9 o8 (show ST1 ≠ BxS by decide)
       have hbnB : w.heap.size ≤ bn := by have := HORD.out; have := HI.out.2.2.2.lt; omega
       have HE9 : Hid (L0 w.heap.size br sb T bt (.slice sa sl sc) (.slice fa fl fc) w (w9.setCell ⟨bn, 0, none⟩ (.slice a9 l9 c9)) ∧ Tw w.heap.size T sb (w9.setCell ⟨bn, 0, none⟩ (.slice a9 l9 c9)) (.slice none 0 0) [] 0 ∧ SymM sb 0 (fun _ => 0) (fun _ => false) (w9.setCell ⟨bn, 0, none⟩ (.slice a9 l9 c9)) ∧ Ln w.heap.size bt bn (.slice a9 l9 c9) (namK (k + 1)) (w9.setCell ⟨bn, 0, none⟩ (.slice a9 l9 c9))) := Lib.hid (by
         refine ⟨((HI.out.1.bel_ b8).grown hg9 o8 (by decide) (by decide) (by decide)).far q9 hbnB (by decide) (by decide) (by decide) 0 _, ((HI.out.2.1.bel b8).grownG hg9 o8 (by decide) (by decide) (by decide) (by decide)).far q9 (by decide) (by decide) (by decide) (by decide) 0 _, map_far (map_grown (MapOf.bel HI.out.2.2.1 b8) hg9 o8) q9 0 _, ⟨HI.out.2.2.2.lt, q9.set_ 0 _ _ rfl, ?_⟩⟩
         rw [hnk]
         exact own_set o9 q9 (show ST1 ≠ BxS by decide) 0 _)
       have HRun := Lib.hid hrun
       have c9' : w9.cell? ⟨bn, 0, none⟩ = some (.slice na nl nc) := q9.c 0 _ rfl
       have z9 : w9.frozen? ⟨bn, 0, none⟩ = false := q9.fz 0
       clear b8 hrd hBw hB8 o8 hrun o9 hg9 hnk q9 hbnB hown hsS2
       go_wp2_with (at_builtin; refine wpList_app rfl _ _ _ rfl _ _ _ _ rfl rfl HRun.out ?_)
       exact ⟨⟨k + 1, by simp, by omega, _, HE9⟩, by simp only [intOf]; omega⟩
     · obtain rfl : k = n := by omega
       rcases hnc with h | h
       · have e2 : decide ((k : Int) < 6) = false := decide_eq_false (by omega)
         have e4 : decide (k < 6) = false := decide_eq_false (by omega)
         have HE := hI
         clear hI
         by_cases hs : k < sl
         · have e1 : decide ((k : Int) < (sl : Int)) = true := decide_eq_true (by omega)
           have e3 : decide (k < sl) = true := decide_eq_true (by omega)
           go_wp2_with fail
           go_meet
           exact ⟨_, HE⟩
         · have e1 : decide ((k : Int) < (sl : Int)) = false := decide_eq_false (by omega)
           have e3 : decide (k < sl) = false := decide_eq_false (by omega)
           go_wp2_with fail
           go_meet
           exact ⟨_, HE⟩
       · have e1 : decide ((k : Int) < (sl : Int)) = false := decide_eq_false (by omega)
         have e3 : decide (k < sl) = false := decide_eq_false (by omega)
         have HE := hI
         clear hI
         go_wp2_with fail
         go_meet
         exact ⟨_, HE⟩
  case rest =>
   obtain ⟨nv, hI⟩ := hcut
   obtain ⟨na, nc, rfl⟩ := hI.out.2.2.2.row.form
   obtain ⟨N, hN⟩ : ∃ N, (namK n).length = N := ⟨_, rfl⟩
   have hNN : N = NN n := by rw [← hN]; exact names_len n
   have hN22 : N ≤ 22 := by rw [hNN]; unfold NN; omega
   have hI2 : Hid (L0 w.heap.size br sb T bt (.slice sa sl sc) (.slice fa fl fc) w wc ∧ Tw w.heap.size T sb wc (.slice none 0 0) [] 0 ∧ SymM sb 0 (fun _ => 0) (fun _ => false) wc ∧ Ln w.heap.size bt bn (.slice na N nc) (namesL n) wc) := Lib.hid (by rw [← hN]; exact hI.out)
   clear hI hN
   have hNM := Lib.hid hNN
   obtain ⟨gn, rfl⟩ : ∃ gn, na = some ⟨gn, 0, none⟩ := by
     have := hI2.out.2.2.2.row
     unfold OwnS at this
     obtain ⟨g, c, e⟩ := own_form this (by rw [names_len]; unfold NN; omega)
     cases e
     exact ⟨_, rfl⟩
   obtain ⟨K0, hK0⟩ : ∃ l : List Th, l = [thB XT w.heap.size #[.slice sa sl sc, .slice fa fl fc], thB RHT br #[.int .i64 0, .slice none 0 0, .int .u32 0], thB PTT bt #[.pointer (some ⟨T, 0, none⟩)], thB BxS bn #[.slice (some ⟨gn, 0, none⟩) N nc], thR w.heap.size ST1 N (.slice (some ⟨gn, 0, none⟩) N nc) ((namesL n).map strV)] := ⟨_, rfl⟩
   have hS0 : Sta w.heap.size w wc K0 := by
     rw [hK0]
     refine ⟨hI2.out.1.bel, Nat.le_refl _, fun t ht => ?_⟩
     simp only [List.mem_cons, List.not_mem_nil, or_false] at ht
     rcases ht with rfl | rfl | rfl | rfl | rfl
     · exact hI2.out.1.x
     · exact hI2.out.1.r
     · exact hI2.out.1.t
     · exact hI2.out.2.2.2.bx
     · have := hI2.out.2.2.2.row
       unfold OwnS at this
       rw [names_len, ← hNM.out] at this
       exact this
   have hn0 : noT TT K0 = true ∧ noT OT K0 = true ∧ noT UT K0 = true ∧ noT BxM K0 = true ∧ noT BxU K0 = true ∧ ∀ x ∈ K0, x.ty ≠ none := by
     rw [hK0]
     refine ⟨rfl, rfl, rfl, rfl, rfl, fun x hx => ?_⟩
     simp only [List.mem_cons, List.not_mem_nil, or_false] at hx
     rcases hx with rfl | rfl | rfl | rfl | rfl <;> exact fun h => (by cases h)
   have HK0 := Lib.hid hK0
   have HN0 := Lib.hid hn0
   have HI3 : Hid (Sta w.heap.size w wc K0 ∧ Tw w.heap.size T sb wc (.slice none 0 0) [] 0 ∧ SymM sb 0 (fun _ => 0) (fun _ => false) wc) := Lib.hid ⟨hS0, hI2.out.2.1, hI2.out.2.2.1⟩
   clear hS0 hn0 hK0 hI2 HI0 HLN hNN
   have HG0 : Hid (∀ v, Sta w.heap.size w v K0 → Blk XT w.heap.size #[.slice sa sl sc, .slice fa fl fc] v ∧ Blk RHT br #[.int .i64 0, .slice none 0 0, .int .u32 0] v ∧ Blk PTT bt #[.pointer (some ⟨T, 0, none⟩)] v ∧ Blk BxS bn #[.slice (some ⟨gn, 0, none⟩) N nc] v ∧ v.ownsRow w.heap.size ST1 1 (.slice (some ⟨gn, 0, none⟩) N nc) N ((namesL n).map strV)) := Lib.hid (fun v h => by
     rw [HK0.out] at h
     exact ⟨h.p0, h.tl.p0, h.tl.tl.p0, h.tl.tl.tl.p0, h.tl.tl.tl.tl.p0⟩)
   have HNC : Hid (∀ v, Sta w.heap.size w v K0 → ∀ j, j < N → v.cell? ⟨gn, j, none⟩ = some (.string ⟨(nmL n j).toArray⟩)) := Lib.hid (fun v h j hj => by
     have h5 := (HG0.out v h).2.2.2.2
     rw [hNM.out, ← names_len n] at h5
     exact strs_at h5 j _ (nm_get (by rw [← hNM.out]; exact hj)))
   have ct : wc.cell? ⟨bt, 0, none⟩ = some (.pointer (some ⟨T, 0, none⟩)) := (HG0.out _ HI3.out.1).2.2.1.c 0 _ rfl
   have hmk24 := mk24
   obtain ⟨WA, halA⟩ : ∃ WA, wc.drew.alloc (.cells (Array.replicate 24 (.int .u64 0)) UT) = WA := ⟨_, rfl⟩
   have bA : Below wc.heap.size wc WA := by rw [← halA]; exact (below_drewN wc 1).trans ((alloc_bel wc.drew _).mono (Nat.le_refl _))
   have hsz0 : w.heap.size ≤ wc.heap.size := HI3.out.1.1.size
   have oA : OwnU w.heap.size WA (.slice (some ⟨wc.heap.size, 0, none⟩) 24 24) (zer 24) := by rw [← halA]; exact own_zer 24 (by omega) hsz0
   have hAdd := Lib.hid (add_L (S := fun _ => True) (a := 2) (kind := 1) (L := []) (bv := .slice none 0 0) (bs := []) (HI3.out.2.1.bel bA) rfl ⟨trivial, rfl⟩ (fun x hx => by cases hx) (by omega) (by simp) oA (Rd.nil _ _ _) ⟨by unfold zer; simp, by simp⟩ (by omega) (Nat.le_trans hsz0 bA.size))
   have HS := Lib.hid (show ∀ v, Sta w.heap.size w v K0 → v.cell? ⟨bt, 0, none⟩ = some (.pointer (some ⟨T, 0, none⟩)) from fun v h => (HG0.out v h).2.2.1.c 0 _ rfl)
   have HBA := Lib.hid bA
   clear bA oA hsz0
   go_wp2_with fail
   refine wp_region_noPanic ?_
   refine Hd.start (fun v => v.cell? ⟨bt, 0, none⟩ = some (.pointer (some ⟨T, 0, none⟩))) (by kernel_rfl) (HS.out _ (HI3.out.1.bel_ (below_drewN wc 1))) (fun hH0 => ?_)
   refine Hd.tk 0 4 hH0 ?_
   refine Hd.tk 1 3 hH0 ?_
   refine Hd.on 2 (fun K hK => ?_)
   go_simp
   refine hK.out _ _ (HS.out _ (HI3.out.1.bel_ HBA.out)) (fun hH1 => ?_)
   clear hK K
   try simp only [Act.put, List.setIfInBounds_toArray, List.set_cons_zero, List.set_cons_succ]
   refine Hd.on 3 (fun K hK => ?_)
   go_simp
   refine hAdd.out.mono ?_; rintro e w8 ⟨lv8, vl8, rfl, hT8, hm8, -, hf8⟩
   have hS8 := (HI3.out.1.bel_ HBA.out).tf0 hf8 HN0.out.1 HN0.out.2.1
   have hM8 : SymM sb 0 (fun _ => 0) (fun _ => false) w8 := hf8.map (HI3.out.2.2.bel HBA.out) (fun h => h)
   obtain ⟨la8, lc8, rfl⟩ := hT8.row.form
   obtain ⟨m8, hm8'⟩ : ∃ m, vl8.length = m := ⟨_, rfl⟩
   rw [hm8'] at hT8
   have c84 : w8.cell? ⟨T, 4, none⟩ = some (.int .u64 0) := hT8.blk.c 4 _ rfl
   have z84 : w8.frozen? ⟨T, 4, none⟩ = false := hT8.blk.fz 4
   have HE8 : Hid (Sta w.heap.size w (w8.setCell ⟨T, 4, none⟩ (.int .u64 4)) K0 ∧ Tw w.heap.size T sb (w8.setCell ⟨T, 4, none⟩ (.int .u64 4)) (.slice la8 m8 lc8) vl8 4 ∧ vl8.map (·.1) = stB 0 ∧ SymM sb 0 (fun _ => 0) (fun _ => false) (w8.setCell ⟨T, 4, none⟩ (.int .u64 4))) := Lib.hid (by
     have h1 := (hT8.setRoot 4).1
     have h2 := (hT8.setRoot 4).2
     exact ⟨hS8.tf0 h2 HN0.out.1 HN0.out.2.1, h1, hm8, h2.map hM8 (fun h => h)⟩)
   have hS8' := HS.out _ hS8
   clear hT8 hm8 hf8 hS8 hM8 hm8'
   refine hK.out _ _ hS8' (fun hH2 => ?_)
   clear hK K
   try simp only [Act.put, List.setIfInBounds_toArray, List.set_cons_zero, List.set_cons_succ]
   refine Hd.tk 4 5 hH2 ?_
   refine Hd.tk 5 6 hH2 ?_
   refine Hd.la 6 (fun K hK => ?_)
   go_simp
   refine hK.out _ _ ?_
   clear hK K
   try simp only [Act.put, List.setIfInBounds_toArray, List.set_cons_zero, List.set_cons_succ]
   simp only [NoPanic]
   obtain ⟨W8, hst8⟩ : ∃ W, w8.setCell ⟨T, 4, none⟩ (.int .u64 4) = W := ⟨_, rfl⟩
   rw [hst8] at HE8
   have hmm := @run_makeMap Try.prog
   obtain ⟨W9, hal9⟩ : ∃ W, W8.alloc (.map #[] 0) = W := ⟨_, rfl⟩
   obtain ⟨W10, hal10⟩ : ∃ W, W9.alloc (.cells #[.map (some W8.heap.size)] BxM) = W := ⟨_, rfl⟩
   have b9 : Below W8.heap.size W8 W9 := by rw [← hal9]; exact alloc_bel _ _
   have b10 : Below W9.heap.size W9 W10 := by rw [← hal10]; exact alloc_bel _ _
   have s9 : W9.heap.size = W8.heap.size + 1 := by rw [← hal9]; simp
   have b810 : Below W8.heap.size W8 W10 := b9.trans (b10.mono b9.size)
   have hCm : SymM W8.heap.size 0 (fun _ => 0) (fun _ => false) W10 := by
     have : SymM W8.heap.size 0 (fun _ => 0) (fun _ => false) W9 := by rw [← hal9]; exact MapOf.made _ _ _ _ _ _ _ _
     exact this.bel b10
   have hBc : Blk BxM W9.heap.size #[.map (some W8.heap.size)] W10 := by rw [← hal10]; exact Blk.made _
   have hOrd1 : sb < W8.heap.size ∧ W8.heap.size < W9.heap.size := ⟨HE8.out.2.2.2.lt, by omega⟩
   have hS10 := (HE8.out.1.bel_ b810).cons (t := thB BxM W9.heap.size #[.map (some W8.heap.size)]) hBc
   have hT10 := HE8.out.2.1.bel b810
   have hM10 := MapOf.bel HE8.out.2.2.2 b810
   obtain ⟨cm, hcm⟩ : ∃ b, W8.heap.size = b := ⟨_, rfl⟩
   obtain ⟨bc, hbc⟩ : ∃ b, W9.heap.size = b := ⟨_, rfl⟩
   rw [hcm] at hCm hBc hOrd1 hS10 hal10
   rw [hbc] at hBc hOrd1 hS10
   obtain ⟨K1, hK1⟩ : ∃ l : List Th, l = thB BxM bc #[.map (some cm)] :: K0 := ⟨_, rfl⟩
   rw [← hK1] at hS10
   have hn1 : noT TT K1 = true ∧ noT OT K1 = true ∧ noT UT K1 = true ∧ noT BxU K1 = true ∧ ∀ x ∈ K1, x.ty ≠ none := by
     rw [hK1]
     refine ⟨by simp only [noT, List.all_cons]; exact HN0.out.1, by simp only [noT, List.all_cons]; exact HN0.out.2.1, by simp only [noT, List.all_cons]; exact HN0.out.2.2.1, by simp only [noT, List.all_cons]; exact HN0.out.2.2.2.2.1, fun x hx => ?_⟩
     rcases List.mem_cons.1 hx with rfl | hx
     · exact fun h => (by cases h)
     · exact HN0.out.2.2.2.2.2 x hx
   have HN1 := Lib.hid hn1
   have HK1 := Lib.hid hK1
   have HO1 := Lib.hid hOrd1
   have HG1 : Hid (∀ v, Sta w.heap.size w v K1 → Blk BxM bc #[.map (some cm)] v ∧ Sta w.heap.size w v K0) := Lib.hid (fun v h => by rw [HK1.out] at h; exact ⟨h.p0, h.tl⟩)
   have HI4 : Hid (Sta w.heap.size w W10 K1 ∧ Tw w.heap.size T sb W10 (.slice la8 m8 lc8) vl8 4 ∧ vl8.map (·.1) = stB 0 ∧ SymM sb 0 (fun _ => 0) (fun _ => false) W10 ∧ SymM cm 0 (fun _ => 0) (fun _ => false) W10) := Lib.hid ⟨hS10, hT10, HE8.out.2.2.1, hM10, hCm⟩
   have c10 : W10.cell? ⟨bn, 0, none⟩ = some (.slice (some ⟨gn, 0, none⟩) N nc) := (HG0.out _ (HG1.out _ hS10).2).2.2.2.1.c 0 _ rfl
   clear b9 b10 s9 b810 hCm hBc hOrd1 hS10 hT10 hM10 hn1 hK1 HE8 hAdd HI3 HBA
   go_upto_block 2 with fail
   clear hst8 hal9 hal10 hcm hbc c84 z84 ct c10 halA hmk24
   go_cut [9] from 72 to 81 (fun s9 wx => ∃ lv vl, Hid (Sta w.heap.size w wx K1 ∧ Tw w.heap.size T sb wx lv vl 4 ∧ vl.map (·.1) = stB N ∧ SymM sb 0 (fun _ => 0) (fun _ => false) wx ∧ SymM cm N (fnF (nmL n) (fun i => ((2 * clsAt i : Nat) : Int)) N) (gnF (nmL n) N) wx))
   case first =>
    as_aux_lemma =>
    go_wp2_with fail
    go_loopw [72, 9] (fun y _ wr => ∃ (k : Nat), y = .int .i64 (k : Int) ∧ k ≤ N ∧ ∃ lv vl, Hid (Sta w.heap.size w wr K1 ∧ Tw w.heap.size T sb wr lv vl 4 ∧ vl.map (·.1) = stB k ∧ SymM sb 0 (fun _ => 0) (fun _ => false) wr ∧ SymM cm k (fnF (nmL n) (fun i => ((2 * clsAt i : Nat) : Int)) k) (gnF (nmL n) k) wr)) (fun y _ _ => N - (intOf y).toNat)
    case atStart => exact ⟨0, rfl, Nat.zero_le _, _, _, HI4⟩
    case round =>
      obtain ⟨k, rfl, hk, lv, vl, hI⟩ := hrel
      have hk22 : (k : Int) ≤ 22 := by omega
      have hN22' : (N : Int) ≤ 22 := by omega
      by_cases hkn : k < N
      · have e1 : decide ((k : Int) < (N : Int)) = true := decide_eq_true (by omega)
        have e2 : (k : Int) < (N : Int) := by omega
        have e3 : decide (k < N) = true := decide_eq_true hkn
        have hkN : k < NN n := by rw [← hNM.out]; exact hkn
        obtain ⟨s, hs⟩ : ∃ s, nmL n k = s := ⟨_, rfl⟩
        have hsl : s.length ≤ 15 := by rw [← hs]; exact nm_len hn6 k
        have cn := HNC.out _ (HG1.out _ hI.out.1).2 k hkn
        rw [hs] at cn
        obtain ⟨E, hE⟩ : ∃ E, 2 * clsAt k = E := ⟨_, rfl⟩
        have hE2 : E ≤ 1000 := by rw [← hE]; unfold clsAt; omega
        have HE := Lib.hid hE
        have Hs := Lib.hid hs
        have HSL := Lib.hid hsl
        have hmk5 := mk5
        obtain ⟨WA, halA⟩ : ∃ WA, wr.drew.alloc (.cells (Array.replicate 5 (.int .u64 0)) UT) = WA := ⟨_, rfl⟩
        have bA : Below wr.heap.size wr WA := by rw [← halA]; exact (below_drewN wr 1).trans ((alloc_bel wr.drew _).mono (Nat.le_refl _))
        have hsz0 : w.heap.size ≤ wr.heap.size := hI.out.1.1.size
        have oA : OwnU w.heap.size WA (.slice (some ⟨wr.heap.size, 0, none⟩) 5 5) (zer 5) := by rw [← halA]; exact own_zer 5 (by omega) hsz0
        have hAdd := Lib.hid (add_L (S := fun _ => True) (a := clsAt k) (kind := 0) (L := stB k) (bv := .slice none 0 0) (bs := []) (hI.out.2.1.bel bA) hI.out.2.2.1 (stB_at hn6 hkN) (ok_stB k) (by unfold clsAt; omega) (by unfold stB; simp; omega) oA (Rd.nil _ _ _) ⟨by unfold zer; simp, by simp⟩ (by omega) (Nat.le_trans hsz0 bA.size))
        have HS := Lib.hid (show ∀ v, Sta w.heap.size w v K1 → v.cell? ⟨bc, 0, none⟩ = some (.map (some cm)) ∧ v.cell? ⟨bt, 0, none⟩ = some (.pointer (some ⟨T, 0, none⟩)) from fun v h => ⟨(HG1.out v h).1.c 0 _ rfl, (HG0.out v (HG1.out v h).2).2.2.1.c 0 _ rfl⟩)
        have HBA := Lib.hid bA
        have HI := Lib.hid hI.out
        clear bA oA hsz0 hI hE hs hsl
        go_wp2_with fail
        refine wp_region_noPanic ?_
        refine Hd.start (fun v => v.cell? ⟨bc, 0, none⟩ = some (.map (some cm)) ∧ v.cell? ⟨bt, 0, none⟩ = some (.pointer (some ⟨T, 0, none⟩))) (by kernel_rfl) (HS.out _ (HI.out.1.bel_ (below_drewN wr 1))) (fun hH0 => ?_)
        refine Hd.tk 0 5 hH0 ?_
        refine Hd.tk 1 5 hH0 ?_
        refine Hd.tk 2 4 hH0 ?_
        refine Hd.on 3 (fun K hK => ?_)
        go_simp
        refine hK.out _ _ (HS.out _ (HI.out.1.bel_ HBA.out)) (fun hH1 => ?_)
        clear hK K
        try simp only [Act.put, List.setIfInBounds_toArray, List.set_cons_zero, List.set_cons_succ]
        refine Hd.on 4 (fun K hK => ?_)
        go_simp
        refine hAdd.out.mono ?_; rintro e w8 ⟨lv8, vl8, rfl, hT8, hm8, -, hf8⟩
        have hS8 := (HI.out.1.bel_ HBA.out).tf0 hf8 HN1.out.1 HN1.out.2.1
        have hM8 : SymM sb 0 (fun _ => 0) (fun _ => false) w8 := hf8.map (HI.out.2.2.2.1.bel HBA.out) (fun h => h)
        have hC8 : SymM cm k (fnF (nmL n) (fun i => ((2 * clsAt i : Nat) : Int)) k) (gnF (nmL n) k) w8 := hf8.map (HI.out.2.2.2.2.bel HBA.out) (fun h => h)
        obtain ⟨w9, hput, hC9, hg9⟩ := MapS.put (mt := MT) hC8 (by kernel_rfl) (by kernel_rfl) (by kernel_rfl) (by unfold maxLen; omega) s (by have := HSL.out; unfold maxLen; omega) (E : Int) (u64_wf E (by omega))
        have hBcm : w.heap.size ≤ cm := by have := HO1.out; have := HORD.out; omega
        have HE9 : Hid (Sta w.heap.size w w9 K1 ∧ Tw w.heap.size T sb w9 lv8 vl8 4 ∧ vl8.map (·.1) = stB (k + 1) ∧ SymM sb 0 (fun _ => 0) (fun _ => false) w9 ∧ SymM cm (k + 1) (fnF (nmL n) (fun i => ((2 * clsAt i : Nat) : Int)) (k + 1)) (gnF (nmL n) (k + 1)) w9) := Lib.hid (by
          refine ⟨hS8.mapped hC8 hg9 hBcm (fun x hx h => absurd h (HN1.out.2.2.2.2 x hx)), hT8.mapped hC8 hg9, ?_, hM8.kept hg9 (fun e => by cases e; have := HO1.out; omega), ?_⟩
          · rw [hm8]; unfold stB; rw [List.range_succ, List.map_append]; rfl
          · rw [← Hs.out, ← HE.out] at hC9
            exact hC9)
        rw [HE.out]
        have hS8' := HS.out _ hS8
        clear hT8 hm8 hf8 hS8 hM8 hC8 hC9 hg9
        refine hK.out _ _ hS8' (fun hH2 => ?_)
        clear hK K
        try simp only [Act.put, List.setIfInBounds_toArray, List.set_cons_zero, List.set_cons_succ]
        refine Hd.la 5 (fun K hK => ?_)
        go_simp
        refine hK.out _ _ ?_
        clear hK K
        try simp only [Act.put, List.setIfInBounds_toArray, List.set_cons_zero, List.set_cons_succ]
        simp only [NoPanic]
        go_wp2_with fail
        exact ⟨⟨k + 1, by simp, by omega, _, _, HE9⟩, by simp only [intOf]; omega⟩
      · obtain rfl : k = N := by omega
        have e1 : decide ((k : Int) < (k : Int)) = false := decide_eq_false (by omega)
        have e3 : decide (k < k) = false := decide_eq_false (by omega)
        have HE := hI
        clear hI
        go_wp2_with fail
        go_meet
        exact ⟨_, _, HE⟩
   case rest =>
    obtain ⟨lv, vl, hI⟩ := hcut
    have b12 : Below wc.heap.size wc (wc.alloc (.map #[] 0)) := alloc_bel wc _
    obtain ⟨W12, hal12⟩ : ∃ W, wc.alloc (.map #[] 0) = W := ⟨_, rfl⟩
    rw [hal12] at b12
    have hMm : SymM wc.heap.size 0 (fun _ => 0) (fun _ => false) W12 := by rw [← hal12]; exact MapOf.made _ _ _ _ _ _ _ _
    obtain ⟨K2, hK2⟩ : ∃ l : List Th, l = thM UT .u64 cm N (fnF (nmL n) (fun i => ((2 * clsAt i : Nat) : Int)) N) (gnF (nmL n) N) :: K1 := ⟨_, rfl⟩
    have hS12 := (hI.out.1.bel_ b12).cons (t := thM UT .u64 cm N (fnF (nmL n) (fun i => ((2 * clsAt i : Nat) : Int)) N) (gnF (nmL n) N)) (MapOf.bel hI.out.2.2.2.2 b12)
    rw [← hK2] at hS12
    have hO2 : cm < wc.heap.size ∧ sb < wc.heap.size ∧ bc < wc.heap.size := ⟨hI.out.2.2.2.2.lt, hI.out.2.2.2.1.lt, (HG1.out _ hI.out.1).1.lt⟩
    have hstC : stB N = stC n 0 := by unfold stB stC; rw [List.range_zero, List.map_nil, List.append_nil, hNM.out]
    have hT12 := hI.out.2.1.bel b12
    have hM12 := MapOf.bel hI.out.2.2.2.1 b12
    obtain ⟨mm, hmmE⟩ : ∃ b, wc.heap.size = b := ⟨_, rfl⟩
    rw [hmmE] at hMm hO2
    have hn2 : noT TT K2 = true ∧ noT OT K2 = true ∧ noT UT K2 = true ∧ noT BxU K2 = true ∧ ∀ x ∈ K2, x.ty = none → x.ft = some cm := by
      rw [hK2]
      refine ⟨by simp only [noT, List.all_cons]; exact HN1.out.1, by simp only [noT, List.all_cons]; exact HN1.out.2.1, by simp only [noT, List.all_cons]; exact HN1.out.2.2.1, by simp only [noT, List.all_cons]; exact HN1.out.2.2.2.1, fun x hx h => ?_⟩
      rcases List.mem_cons.1 hx with rfl | hx
      · rfl
      · exact absurd h (HN1.out.2.2.2.2 x hx)
    have HN2 := Lib.hid hn2
    have HK2 := Lib.hid hK2
    have HO2 := Lib.hid hO2
    have HG2 : Hid (∀ v, Sta w.heap.size w v K2 → SymM cm N (fnF (nmL n) (fun i => ((2 * clsAt i : Nat) : Int)) N) (gnF (nmL n) N) v ∧ Blk BxM bc #[.map (some cm)] v ∧ Sta w.heap.size w v K0) := Lib.hid (fun v h => by rw [HK2.out] at h; exact ⟨h.p0, HG1.out v h.tl⟩)
    have HI5 : Hid (Sta w.heap.size w W12 K2 ∧ Tw w.heap.size T sb W12 lv vl 4 ∧ vl.map (·.1) = stC n 0 ∧ SymM sb 0 (fun _ => 0) (fun _ => false) W12 ∧ SymM mm 0 (fun _ => 0) (fun _ => false) W12) := Lib.hid ⟨hS12, hT12, hI.out.2.2.1.trans hstC, hM12, hMm⟩
    have c12 : W12.cell? ⟨bn, 0, none⟩ = some (.slice (some ⟨gn, 0, none⟩) N nc) := (HG0.out _ (HG2.out _ hS12).2.2).2.2.2.1.c 0 _ rfl
    have hmm := @run_makeMap Try.prog
    clear b12 hMm hS12 hO2 hstC hT12 hM12 hn2 hK2 hI HI4
    go_upto_block 4 with fail
    clear hal12 hmmE c12 hmm
    go_cut [12] from 85 to 94 (fun s12 wx => ∃ lv vl, Hid (Sta w.heap.size w wx K2 ∧ Tw w.heap.size T sb wx lv vl 4 ∧ vl.map (·.1) = stC n N ∧ SymM sb 0 (fun _ => 0) (fun _ => false) wx ∧ SymM mm N (fnF (nmL n) (fun i => ((2 * metaAt n i : Nat) : Int)) N) (gnF (nmL n) N) wx))
    case first =>
     as_aux_lemma =>
     go_wp2_with fail
     go_loopw [85, 12] (fun y _ wr => ∃ (k : Nat), y = .int .i64 (k : Int) ∧ k ≤ N ∧ ∃ lv vl, Hid (Sta w.heap.size w wr K2 ∧ Tw w.heap.size T sb wr lv vl 4 ∧ vl.map (·.1) = stC n k ∧ SymM sb 0 (fun _ => 0) (fun _ => false) wr ∧ SymM mm k (fnF (nmL n) (fun i => ((2 * metaAt n i : Nat) : Int)) k) (gnF (nmL n) k) wr)) (fun y _ _ => N - (intOf y).toNat)
     case atStart => exact ⟨0, rfl, Nat.zero_le _, _, _, HI5⟩
     case round =>
       obtain ⟨k, rfl, hk, lv, vl, hI⟩ := hrel
       have hk22 : (k : Int) ≤ 22 := by omega
       have hN22' : (N : Int) ≤ 22 := by omega
       by_cases hkn : k < N
       · have e1 : decide ((k : Int) < (N : Int)) = true := decide_eq_true (by omega)
         have e2 : (k : Int) < (N : Int) := by omega
         have e3 : decide (k < N) = true := decide_eq_true hkn
         have hkN : k < NN n := by rw [← hNM.out]; exact hkn
         obtain ⟨s, hs⟩ : ∃ s, nmL n k = s := ⟨_, rfl⟩
         have hsl : s.length ≤ 15 := by rw [← hs]; exact nm_len hn6 k
         have cn := HNC.out _ (HG2.out _ hI.out.1).2.2 k hkn
         rw [hs] at cn
         obtain ⟨E, hE⟩ : ∃ E, 2 * metaAt n k = E := ⟨_, rfl⟩
         have hE2 : E ≤ 1000 := by rw [← hE]; unfold metaAt NN; omega
         have HE := Lib.hid hE
         have Hs := Lib.hid hs
         have HSL := Lib.hid hsl
         have hmk5 := mk5
         obtain ⟨WA, halA⟩ : ∃ WA, wr.drew.alloc (.cells (Array.replicate 5 (.int .u64 0)) UT) = WA := ⟨_, rfl⟩
         have bA : Below wr.heap.size wr WA := by rw [← halA]; exact (below_drewN wr 1).trans ((alloc_bel wr.drew _).mono (Nat.le_refl _))
         have hsz0 : w.heap.size ≤ wr.heap.size := hI.out.1.1.size
         have oA : OwnU w.heap.size WA (.slice (some ⟨wr.heap.size, 0, none⟩) 5 5) (zer 5) := by rw [← halA]; exact own_zer 5 (by omega) hsz0
         have hAdd := Lib.hid (add_L (S := fun _ => True) (a := metaAt n k) (kind := 0) (L := stC n k) (bv := .slice none 0 0) (bs := []) (hI.out.2.1.bel bA) hI.out.2.2.1 (stC_at hn6 hkN) (ok_stC k) (by unfold metaAt NN; omega) (by unfold stC NN; simp; omega) oA (Rd.nil _ _ _) ⟨by unfold zer; simp, by simp⟩ (by omega) (Nat.le_trans hsz0 bA.size))
         have HS := Lib.hid (show ∀ v, Sta w.heap.size w v K2 → v.cell? ⟨bt, 0, none⟩ = some (.pointer (some ⟨T, 0, none⟩)) from fun v h => (HG0.out v (HG2.out v h).2.2).2.2.1.c 0 _ rfl)
         have HBA := Lib.hid bA
         have HI := Lib.hid hI.out
         clear bA oA hsz0 hI hE hs hsl
         go_wp2_with fail
         refine wp_region_noPanic ?_
         refine Hd.start (fun v => v.cell? ⟨bt, 0, none⟩ = some (.pointer (some ⟨T, 0, none⟩))) (by kernel_rfl) (HS.out _ (HI.out.1.bel_ (below_drewN wr 1))) (fun hH0 => ?_)
         refine Hd.tk 0 5 hH0 ?_
         refine Hd.tk 1 5 hH0 ?_
         refine Hd.tk 2 4 hH0 ?_
         refine Hd.on 3 (fun K hK => ?_)
         go_simp
         refine hK.out _ _ (HS.out _ (HI.out.1.bel_ HBA.out)) (fun hH1 => ?_)
         clear hK K
         try simp only [Act.put, List.setIfInBounds_toArray, List.set_cons_zero, List.set_cons_succ]
         refine Hd.on 4 (fun K hK => ?_)
         go_simp
         refine hAdd.out.mono ?_; rintro e w8 ⟨lv8, vl8, rfl, hT8, hm8, -, hf8⟩
         have hS8 := (HI.out.1.bel_ HBA.out).tf0 hf8 HN2.out.1 HN2.out.2.1
         have hM8 : SymM sb 0 (fun _ => 0) (fun _ => false) w8 := hf8.map (HI.out.2.2.2.1.bel HBA.out) (fun h => h)
         have hC8 : SymM mm k (fnF (nmL n) (fun i => ((2 * metaAt n i : Nat) : Int)) k) (gnF (nmL n) k) w8 := hf8.map (HI.out.2.2.2.2.bel HBA.out) (fun h => h)
         obtain ⟨w9, hput, hC9, hg9⟩ := MapS.put (mt := MT) hC8 (by kernel_rfl) (by kernel_rfl) (by kernel_rfl) (by unfold maxLen; omega) s (by have := HSL.out; unfold maxLen; omega) (E : Int) (u64_wf E (by omega))
         have hBcm : w.heap.size ≤ mm := by have := HO1.out; have := HORD.out; have := HO2.out; omega
         have HE9 : Hid (Sta w.heap.size w w9 K2 ∧ Tw w.heap.size T sb w9 lv8 vl8 4 ∧ vl8.map (·.1) = stC n (k + 1) ∧ SymM sb 0 (fun _ => 0) (fun _ => false) w9 ∧ SymM mm (k + 1) (fnF (nmL n) (fun i => ((2 * metaAt n i : Nat) : Int)) (k + 1)) (gnF (nmL n) (k + 1)) w9) := Lib.hid (by
           refine ⟨hS8.mapped hC8 hg9 hBcm (fun x hx h e => by have := HN2.out.2.2.2.2 x hx h; rw [e] at this; cases this; have := HO2.out; omega), hT8.mapped hC8 hg9, ?_, hM8.kept hg9 (fun e => by cases e; have := HO1.out; have := HO2.out; omega), ?_⟩
           · rw [hm8]; unfold stC; rw [List.range_succ, List.map_append, ← List.append_assoc]; rfl
           · rw [← Hs.out, ← HE.out] at hC9
             exact hC9)
         rw [HE.out]
         have hS8' := HS.out _ hS8
         clear hT8 hm8 hf8 hS8 hM8 hC8 hC9 hg9
         refine hK.out _ _ hS8' (fun hH2 => ?_)
         clear hK K
         try simp only [Act.put, List.setIfInBounds_toArray, List.set_cons_zero, List.set_cons_succ]
         refine Hd.la 5 (fun K hK => ?_)
         go_simp
         refine hK.out _ _ ?_
         clear hK K
         try simp only [Act.put, List.setIfInBounds_toArray, List.set_cons_zero, List.set_cons_succ]
         simp only [NoPanic]
         go_wp2_with fail
         exact ⟨⟨k + 1, by simp, by omega, _, _, HE9⟩, by simp only [intOf]; omega⟩
       · obtain rfl : k = N := by omega
         have e1 : decide ((k : Int) < (k : Int)) = false := decide_eq_false (by omega)
         have e3 : decide (k < k) = false := decide_eq_false (by omega)
         have HE := hI
         clear hI
         go_wp2_with fail
         go_meet
         exact ⟨_, _, HE⟩
    case rest =>
     obtain ⟨lv, vl, hI⟩ := hcut
     obtain ⟨K3, hK3⟩ : ∃ l : List Th, l = thM UT .u64 mm N (fnF (nmL n) (fun i => ((2 * metaAt n i : Nat) : Int)) N) (gnF (nmL n) N) :: K2 := ⟨_, rfl⟩
     have hS3 := hI.out.1.cons (t := thM UT .u64 mm N (fnF (nmL n) (fun i => ((2 * metaAt n i : Nat) : Int)) N) (gnF (nmL n) N)) hI.out.2.2.2.2
     rw [← hK3] at hS3
     have hn3 : noT TT K3 = true ∧ noT OT K3 = true ∧ noT UT K3 = true ∧ noT BxU K3 = true ∧ ∀ x ∈ K3, x.ty = none → x.ft = some mm ∨ x.ft = some cm := by
       rw [hK3]
       refine ⟨by simp only [noT, List.all_cons]; exact HN2.out.1, by simp only [noT, List.all_cons]; exact HN2.out.2.1, by simp only [noT, List.all_cons]; exact HN2.out.2.2.1, by simp only [noT, List.all_cons]; exact HN2.out.2.2.2.1, fun x hx h => ?_⟩
       rcases List.mem_cons.1 hx with rfl | hx
       · exact .inl rfl
       · exact .inr (HN2.out.2.2.2.2 x hx h)
     have HN3 := Lib.hid hn3
     have HK3 := Lib.hid hK3
     have HG3 : Hid (∀ v, Sta w.heap.size w v K3 → SymM mm N (fnF (nmL n) (fun i => ((2 * metaAt n i : Nat) : Int)) N) (gnF (nmL n) N) v ∧ SymM cm N (fnF (nmL n) (fun i => ((2 * clsAt i : Nat) : Int)) N) (gnF (nmL n) N) v ∧ Blk BxM bc #[.map (some cm)] v ∧ Sta w.heap.size w v K0) := Lib.hid (fun v h => by rw [HK3.out] at h; exact ⟨h.p0, HG2.out v h.tl⟩)
     have HI6 : Hid (Sta w.heap.size w wc.drew K3 ∧ Tw w.heap.size T sb wc.drew lv vl 4 ∧ vl.map (·.1) = stD n 0 ∧ SymM sb 0 (fun _ => 0) (fun _ => false) wc.drew) := Lib.hid ⟨hS3.bel_ (below_drewN wc 1), hI.out.2.1.bel (below_drewN wc 1), by rw [hI.out.2.2.1, hNM.out, stC_stD], MapOf.bel hI.out.2.2.2.1 (below_drewN wc 1)⟩
     have HADD : Hid (∀ k, k < 3 → ∀ (v : World) (lv : Value) (vl : List OV), Sta w.heap.size w v K3 → Tw w.heap.size T sb v lv vl 4 → vl.map (·.1) = stD n k → SymM sb 0 (fun _ => 0) (fun _ => false) v → Calls Try.prog 39 #[.pointer (some ⟨T, 0, none⟩), .int .i64 0, .slice none 0 0, .slice none 0 0] v (fun e v' => ∃ lv' vl', e = .returned (.int .u64 ((2 * nilAt n k : Nat) : Int)) ∧ Sta w.heap.size w v' K3 ∧ Tw w.heap.size T sb v' lv' vl' 4 ∧ vl'.map (·.1) = stD n (k + 1) ∧ SymM sb 0 (fun _ => 0) (fun _ => false) v')) := Lib.hid (fun k hk v lv vl h1 h2 h3 h4 => by
       refine (add_L (S := fun _ => True) (a := nilAt n k) (kind := 0) (L := stD n k) (ws := []) (bs := []) h2 h3 (stD_at hn6 hk) (ok_stD k) (by unfold nilAt NN; omega) (by unfold stD NN; simp; omega) (World.ownsRow_nil _ _ _ _) (Rd.nil _ _ _) ⟨by simp, by simp⟩ (by omega) h1.1.size).mono ?_
       rintro e v' ⟨lv', vl', rfl, q1, q2, -, q3⟩
       exact ⟨lv', vl', rfl, h1.tf0 q3 HN3.out.1 HN3.out.2.1, q1, by rw [q2]; exact stD_succ n k, q3.map h4 (fun h => h)⟩)
     have HS := Lib.hid (show ∀ v, Sta w.heap.size w v K3 → v.cell? ⟨bt, 0, none⟩ = some (.pointer (some ⟨T, 0, none⟩)) from fun v h => (HG0.out v (HG3.out v h).2.2.2).2.2.1.c 0 _ rfl)
     obtain ⟨E0, hE0⟩ : ∃ E, 2 * nilAt n 0 = E := ⟨_, rfl⟩
     obtain ⟨E1, hE1⟩ : ∃ E, 2 * nilAt n 1 = E := ⟨_, rfl⟩
     obtain ⟨E2, hE2⟩ : ∃ E, 2 * nilAt n 2 = E := ⟨_, rfl⟩
     have HE0 := Lib.hid hE0
     have HE1 := Lib.hid hE1
     have HE2 := Lib.hid hE2
     clear hS3 hn3 hK3 hI HI5 hE0 hE1 hE2
     go_wp2_with fail
     refine wp_region_noPanic ?_
     refine Hd.start (fun v => v.cell? ⟨bt, 0, none⟩ = some (.pointer (some ⟨T, 0, none⟩))) (by kernel_rfl) (HS.out _ HI6.out.1) (fun hH0 => ?_)
     refine Hd.tk 0 1 hH0 ?_
     refine Hd.tk 2 3 hH0 ?_
     refine Hd.tk 4 5 hH0 ?_
     refine Hd.on 1 (fun K hK => ?_)
     go_simp
     refine (HADD.out 0 (by omega) _ _ _ HI6.out.1 HI6.out.2.1 HI6.out.2.2.1 HI6.out.2.2.2).mono ?_; rintro e v1 ⟨lv1, vl1, rfl, hV1⟩
     have HV1 := Lib.hid hV1
     clear hV1
     rw [HE0.out]
     refine hK.out _ _ (HS.out _ HV1.out.1) (fun hH1 => ?_)
     clear hK K
     try simp only [Act.put, List.setIfInBounds_toArray, List.set_cons_zero, List.set_cons_succ]
     refine Hd.on 3 (fun K hK => ?_)
     go_simp
     refine (HADD.out 1 (by omega) _ _ _ HV1.out.1 HV1.out.2.1 HV1.out.2.2.1 HV1.out.2.2.2).mono ?_; rintro e v2 ⟨lv2, vl2, rfl, hV2⟩
     have HV2 := Lib.hid hV2
     clear hV2
     rw [HE1.out]
     refine hK.out _ _ (HS.out _ HV2.out.1) (fun hH2 => ?_)
     clear hK K
     try simp only [Act.put, List.setIfInBounds_toArray, List.set_cons_zero, List.set_cons_succ]
     refine Hd.on 5 (fun K hK => ?_)
     go_simp
     refine (HADD.out 2 (by omega) _ _ _ HV2.out.1 HV2.out.2.1 HV2.out.2.2.1 HV2.out.2.2.2).mono ?_; rintro e v3 ⟨lv3, vl3, rfl, hV3⟩
     have HV3 := Lib.hid hV3
     clear hV3
     rw [HE2.out]
     refine hK.out _ _ (HS.out _ HV3.out.1) (fun hH3 => ?_)
     clear hK K
     try simp only [Act.put, List.setIfInBounds_toArray, List.set_cons_zero, List.set_cons_succ]
     obtain ⟨W13, hal13⟩ : ∃ W, v3.alloc (.cells #[.int .u64 (E0 : Int), .int .u64 (E1 : Int), .int .u64 (E2 : Int)] UT) = W := ⟨_, rfl⟩
     have b13 : Below v3.heap.size v3 W13 := by rw [← hal13]; exact alloc_bel _ _
     have q13 : Blk UT v3.heap.size (rowV uV [E0, E1, E2]) W13 := by rw [← hal13]; exact Blk.made _
     have o13 := own_blk q13 HV3.out.1.1.size (by simp [maxLen])
     obtain ⟨nb, hnb⟩ : ∃ b, v3.heap.size = b := ⟨_, rfl⟩
     rw [hnb] at o13 q13
     obtain ⟨K4, hK4⟩ : ∃ l : List Th, l = thR w.heap.size UT 3 (.slice (some ⟨nb, 0, none⟩) 3 3) ([E0, E1, E2].map uV) :: K3 := ⟨_, rfl⟩
     have hS13 := (HV3.out.1.bel_ b13).cons (t := thR w.heap.size UT 3 (.slice (some ⟨nb, 0, none⟩) 3 3) ([E0, E1, E2].map uV)) o13
     rw [← hK4] at hS13
     have hG4 : ∀ v, Sta w.heap.size w v K4 → v.ownsRow w.heap.size UT 1 (.slice (some ⟨nb, 0, none⟩) 3 3) 3 ([E0, E1, E2].map uV) ∧ Sta w.heap.size w v K3 := fun v h => by rw [hK4] at h; exact ⟨h.p0, h.tl⟩
     have HG4 := Lib.hid hG4
     have HK4 := Lib.hid hK4
     obtain ⟨V14, hal14⟩ : ∃ W, W13.alloc (.cells #[.slice none 0 0] BxU) = W := ⟨_, rfl⟩
     have b14a : Below W13.heap.size W13 V14 := by rw [← hal14]; exact alloc_bel _ _
     have q14a : Blk BxU W13.heap.size #[.slice none 0 0] V14 := by rw [← hal14]; exact Blk.made _
     obtain ⟨bl, hbl⟩ : ∃ b, W13.heap.size = b := ⟨_, rfl⟩
     have c14 : V14.cell? ⟨bl, 0, none⟩ = some (.slice none 0 0) := by rw [← hbl]; exact q14a.c 0 _ rfl
     have z14 : V14.frozen? ⟨bl, 0, none⟩ = false := by rw [← hbl]; exact q14a.fz 0
     obtain ⟨W14, hst14⟩ : ∃ W, V14.setCell ⟨bl, 0, none⟩ (.slice none 0 0) = W := ⟨_, rfl⟩
     have b14 : Below W13.heap.size W13 W14 := by rw [← hst14, ← hbl]; exact b14a.setCell (Nat.le_refl _) _
     have q14 : Blk BxU W13.heap.size #[.slice none 0 0] W14 := by rw [← hst14, ← hbl]; exact q14a.set_ 0 _ _ rfl
     obtain ⟨W15, hal15⟩ : ∃ W, W14.alloc (.map #[] 0) = W := ⟨_, rfl⟩
     have b15 : Below W14.heap.size W14 W15 := by rw [← hal15]; exact alloc_bel _ _
     have hFm0 : FmM W14.heap.size 0 (fun _ => 0) (fun _ => false) W15 := by rw [← hal15]; exact MapOf.made _ _ _ _ _ _ _ _
     have s13 : W13.heap.size = nb + 1 := by rw [← hal13, ← hnb]; simp
     have s14 : W14.heap.size = W13.heap.size + 1 := by rw [← hst14, ← hal14]; simp [World.setCell]
     have b315 : Below v3.heap.size v3 W15 := (b13.trans (b14.mono b13.size)).trans (b15.mono (by have := b13.size; have := b14.size; omega))
     have hv3 : w.heap.size ≤ v3.heap.size := HV3.out.1.1.size
     have hsyv : sb < v3.heap.size := HV3.out.2.2.2.lt
     have hmmv : mm < v3.heap.size ∧ cm < v3.heap.size := ⟨(HG3.out _ HV3.out.1).1.lt, (HG3.out _ HV3.out.1).2.1.lt⟩
     have hTv := HV3.out.2.1.ge
     have hS15 := (hS13.bel_ b14).bel_ b15
     have hT15 := HV3.out.2.1.bel b315
     have hM15 := MapOf.bel HV3.out.2.2.2 b315
     have q15 := q14.below b15 q14.lt
     obtain ⟨fb, hfb⟩ : ∃ b, W14.heap.size = b := ⟨_, rfl⟩
     rw [hbl] at q15 s13 s14
     rw [hfb] at hFm0 s14
     have hnbv : nb < W15.heap.size := by rw [← hnb]; exact Nat.lt_of_lt_of_le (by rw [← hal13]; simp) (Nat.le_trans b14.size b15.size)
     have hOK : KOk w.heap.size sb bl nb fb K4 := by
       rw [hK4]
       refine ⟨by simp only [noT, List.all_cons]; exact HN3.out.1, by simp only [noT, List.all_cons]; exact HN3.out.2.1, by simp only [noT, List.all_cons]; exact HN3.out.2.2.2.1, fun x hx h => ?_, by have := HORD.out; omega⟩
       · rcases List.mem_cons.1 hx with rfl | hx
         · cases h
         · have h1 := HO1.out
           have h2 := HO2.out
           rcases HN3.out.2.2.2.2 x hx h with e | e
           · rw [e]; exact ⟨fun e' => by cases e'; omega, fun e' => by cases e'; omega⟩
           · rw [e]; exact ⟨fun e' => by cases e'; omega, fun e' => by cases e'; omega⟩
     have HOK := Lib.hid hOK
     obtain ⟨x1, x2, x3, x4, x5, x6, G0, r1, r2, r3, r4, r5, r6, hFm6, hg6⟩ := fm_lit fb W15 hFm0
     have hMid : Mid w.heap.size T sb bl nb fb w K4 (stE n sup flds 0) [] 0 (fun _ => 0) (fun _ => false) 6 fm0 G0 lv3 vl3 (.slice none 0 0) x6 :=
       ⟨hS15.mapped hFm0 hg6 hOK.ge.2.2.1 (fun x hx e => (hOK.mp x hx e).2), hT15.mapped hFm0 hg6, by rw [HV3.out.2.2.1, stD_stE], blk_mapped q15 hFm0 hg6, World.ownsRow_nil _ _ _ _, fun x hx b hb e => (by cases e), fun x hx hty b hb e => (by cases e), hM15.kept hg6 (fun e => hOK.ge.2.2.2 (by cases e; rfl)), hFm6⟩
     have HMID := Lib.hid hMid
     have hS13' := HS.out _ (HV3.out.1.bel_ b13)
     have c25 : x6.cell? ⟨bn, 0, none⟩ = some (.slice (some ⟨gn, 0, none⟩) N nc) := (HG0.out _ (HG3.out _ (hG4 _ hMid.st).2).2.2.2).2.2.2.1.c 0 _ rfl
     dsimp only [FmI] at r1 r2 r3 r4 r5 r6
     have hmm := @run_makeMap Try.prog
     clear b13 q13 o13 hS13 hG4 hK4 b14 q14 b14a q14a b15 hFm0 s13 s14 b315 hv3 hsyv hmmv hTv hS15 hT15 hM15 q15 hnbv hOK hFm6 hg6 hMid HV1 HV2 HI6 HADD
     refine Hd.on 6 (fun K hK => ?_)
     go_simp
     refine hK.out _ _ hS13' (fun hH4 => ?_)
     clear hK K
     try simp only [Act.put, List.setIfInBounds_toArray, List.set_cons_zero, List.set_cons_succ]
     refine Hd.la 7 (fun K hK => ?_)
     go_simp
     refine hK.out _ _ ?_
     clear hK K
     try simp only [Act.put, List.setIfInBounds_toArray, List.set_cons_zero, List.set_cons_succ]
     simp only [NoPanic]
     have HROOT : Hid (∀ v, Sta w.heap.size w v K4 → ∀ i : Nat, 5 ≤ i → i ≤ 20 → Calls Try.prog 40 #[.int .i64 (i : Int), .pointer (some ⟨bc, 0, none⟩), .pointer (some ⟨bn, 0, none⟩)] v (Back (.int .u64 ((2 * clsAt (i - 5) : Nat) : Int)) v)) := Lib.hid (fun v h i h5 h20 => by
       have g3 := HG3.out v (HG4.out v h).2
       have g0 := HG0.out v g3.2.2.2
       exact root_N hn6 hNM.out g3.2.2.1 g0.2.2.2.1 g0.2.2.2.2 g3.2.1 i h5 h20)
     have HLK : Hid (∀ v, Sta w.heap.size w v K4 → ∀ j : Nat, j < N → (Instr.lookup MT (.map (some cm)) (.string ⟨(nmL n j).toArray⟩) false).run Try.prog v = .ok (.int .u64 ((2 * clsAt j : Nat) : Int)) v ∧ (Instr.lookup MT (.map (some mm)) (.string ⟨(nmL n j).toArray⟩) false).run Try.prog v = .ok (.int .u64 ((2 * metaAt n j : Nat) : Int)) v) := Lib.hid (fun v h j hj => by
       have g3 := HG3.out v (HG4.out v h).2
       exact ⟨look_N hn6 hNM.out _ g3.2.1 j hj, look_N hn6 hNM.out _ g3.1 j hj⟩)
     have HNIL : Hid (∀ v, Sta w.heap.size w v K4 → v.cell? ⟨nb, 0, none⟩ = some (.int .u64 (E0 : Int)) ∧ v.cell? ⟨nb, 1, none⟩ = some (.int .u64 (E1 : Int)) ∧ v.cell? ⟨nb, 2, none⟩ = some (.int .u64 (E2 : Int))) := Lib.hid (fun v h => by
       have hr := (HG4.out v h).1
       exact ⟨World.ownsRow.cells hr (g := nb) rfl 0 _ rfl, World.ownsRow.cells hr (g := nb) rfl 1 _ rfl, World.ownsRow.cells hr (g := nb) rfl 2 _ rfl⟩)
     have HBOX : Hid (∀ v, Sta w.heap.size w v K4 → v.cell? ⟨bt, 0, none⟩ = some (.pointer (some ⟨T, 0, none⟩)) ∧ v.cell? ⟨bc, 0, none⟩ = some (.map (some cm)) ∧ v.cell? ⟨bn, 0, none⟩ = some (.slice (some ⟨gn, 0, none⟩) N nc) ∧ v.cell? ⟨w.heap.size, 0, none⟩ = some (.slice sa sl sc) ∧ v.cell? ⟨w.heap.size, 1, none⟩ = some (.slice fa fl fc)) := Lib.hid (fun v h => by
       have g3 := HG3.out v (HG4.out v h).2
       have g0 := HG0.out v g3.2.2.2
       exact ⟨g0.2.2.1.c 0 _ rfl, g3.2.2.1.c 0 _ rfl, g0.2.2.2.1.c 0 _ rfl, g0.1.c 0 _ rfl, g0.1.c 1 _ rfl⟩)
     have HNAM : Hid (∀ v, Sta w.heap.size w v K4 → ∀ j : Nat, j < N → v.cell? ⟨gn, j, none⟩ = some (.string ⟨(nmL n j).toArray⟩)) := Lib.hid (fun v h => HNC.out v (HG3.out v (HG4.out v h).2).2.2.2)
     go_upto_block 6 with fail
     clear hal13 hal14 hst14 hal15 hnb hbl hfb c14 z14 r1 r2 r3 r4 r5 r6 hS13' c25 hmm hH0 hH1 hH2 hH3 hH4 HV3
     go_cut [18, 19, 20, 21, 22, 23, 24] from 108 to 256 (fun s18 s19 s20 s21 s22 s23 s24 wx => ∃ lv vl lsv nf ff gf, Hid (Mid w.heap.size T sb bl nb fb w K4 (stE n sup flds N) (listsK n N) N (fnF (nmL n) (fun i => ((2 * symAt n i : Nat) : Int)) N) (gnF (nmL n) N) nf ff gf lv vl lsv wx))
     case first =>
      as_aux_lemma =>
      go_wp2_with fail
      go_loopg [108, 18, 19, 20, 21, 22, 23, 24] N (fun g s108 s18 s19 s20 s21 s22 s23 s24 wr => ∃ k : Nat, g + k = N ∧ s108 = .int .i64 (k : Int) ∧ ∃ lv vl lsv nf ff gf, nf ≤ 6 + 2 * k ∧ Hid (FmtOk n sup flds k ff ∧ Mid w.heap.size T sb bl nb fb w K4 (stE n sup flds k) (listsK n k) k (fnF (nmL n) (fun i => ((2 * symAt n i : Nat) : Int)) k) (gnF (nmL n) k) nf ff gf lv vl lsv wr))
      case atStart => exact ⟨0, by omega, rfl, _, _, _, 6, fm0, _, by omega, Lib.hid ⟨fm0_ok n hn6 sup flds, HMID.out⟩⟩
      case round =>
        obtain ⟨k, hgk, rfl, lv, vl, lsv, nf, ff, gf, hnf, hI⟩ := hrel
        have hk22 : (k : Int) ≤ 22 := by omega
        have hN22' : (N : Int) ≤ 22 := by omega
        by_cases hkn : k < N
        · have e1 : decide ((k : Int) < (N : Int)) = true := decide_eq_true (by omega)
          have e2 : (k : Int) < (N : Int) := by omega
          have e3 : decide (k < N) = true := decide_eq_true hkn
          have hkN : k < NN n := by rw [← hNM.out]; exact hkn
          have HKN := Lib.hid hkN
          obtain ⟨s, hs⟩ : ∃ s, nmL n k = s := ⟨_, rfl⟩
          have hsl : s.length ≤ 15 := by rw [← hs]; exact nm_len hn6 k
          have cn := HNAM.out _ hI.out.2.st k hkn
          rw [hs] at cn
          have Hs := Lib.hid hs
          have HSLS := Lib.hid hsl
          obtain ⟨A1, hA1⟩ : ∃ A, 2 * clsAt 1 = A := ⟨_, rfl⟩
          have HA1 := Lib.hid hA1
          have hR6 := HROOT.out wr.drew (hI.out.2.bel (below_drewN wr 1)).st 6 (by omega) (by omega)
          rw [show 6 - 5 = 1 from rfl, hA1] at hR6
          have HR6 := Lib.hid hR6
          have HS0 := Lib.hid (show ∀ v, Sta w.heap.size w v K4 → v.cell? ⟨nb, 0, none⟩ = some (.int .u64 (E0 : Int)) from fun v h => (HNIL.out v h).1)
          have HI := Lib.hid hI.out
          have HNF := Lib.hid hnf
          clear hs hsl hA1 hR6 hI hnf
          go_wp2_with fail
          refine wp_region_noPanic ?_
          refine Hd.start (fun v => v.cell? ⟨nb, 0, none⟩ = some (.int .u64 (E0 : Int))) (by kernel_rfl) (HS0.out _ (HI.out.2.bel (below_drewN wr 1)).st) (fun hH0 => ?_)
          refine Hd.tk 0 1 hH0 ?_
          refine Hd.tk 1 2 hH0 ?_
          refine Hd.tk 2 5 hH0 ?_
          refine Hd.tk 3 4 hH0 ?_
          refine Hd.on 4 (fun K hK => ?_)
          go_simp
          refine HR6.out.mono ?_; rintro e w1 ⟨rfl, hb1⟩
          have hM1 := (HI.out.2.bel (below_drewN wr 1)).bel hb1
          have HI1 := Lib.hid hM1
          clear hb1 hM1
          refine hK.out _ _ (HS0.out _ HI1.out.st) (fun hH1 => ?_)
          clear hK K
          try simp only [Act.put, List.setIfInBounds_toArray, List.set_cons_zero, List.set_cons_succ]
          refine Hd.tk 5 6 hH1 ?_
          refine Hd.la 6 (fun K hK => ?_)
          go_simp
          refine hK.out _ _ ?_
          clear hK K
          try simp only [Act.put, List.setIfInBounds_toArray, List.set_cons_zero, List.set_cons_succ]
          simp only [NoPanic]
          go_upto_if 119 with fail
          obtain ⟨SU, hSU⟩ : ∃ x, (if k = 0 then 2 * nilAt n 0 else 2 * clsAt (upL sup k)) = x := ⟨_, rfl⟩
          obtain ⟨AB, hAB⟩ : ∃ x, (if k = 0 then 2 * clsAt 1 else 2 * metaAt n (upL sup k)) = x := ⟨_, rfl⟩
          have HSU := Lib.hid hSU
          have HAB := Lib.hid hAB
          clear hSU hAB
          go_cut [20, 21, 22] from 109 to 256 (fun s20 s21 s22 wx => s20 = .int .u64 (SU : Int) ∧ s21 = .int .u64 (AB : Int) ∧ ∃ nf' ff' gf', nf' ≤ 8 + 2 * k ∧ Hid (FmtOk n sup flds (k + 1) ff' ∧ Mid w.heap.size T sb bl nb fb w K4 (stE n sup flds k) (listsK n k) k (fnF (nmL n) (fun i => ((2 * symAt n i : Nat) : Int)) k) (gnF (nmL n) k) nf' ff' gf' lv vl lsv wx))
          case first =>
            as_aux_lemma =>
            by_cases hk0 : k = 0
            · have e5 : decide ((0 : Int) < (k : Int)) = false := decide_eq_false (by omega)
              have e6 : ¬ (0 : Int) < (k : Int) := by omega
              have e7 : decide (0 < k) = false := decide_eq_false (by omega)
              have HK0 := Lib.hid hk0
              clear hk0
              go_wp2_with fail
              go_meet
              refine ⟨by rw [← HSU.out, if_pos HK0.out, HE0.out], by rw [← HAB.out, if_pos HK0.out, HA1.out], nf, ff, gf, by have := HNF.out; omega, Lib.hid ⟨?_, HI1.out⟩⟩
              have h0 := HI.out.1
              have hN0 := HKN.out
              refine h0.step hn6 hN0 ?_ fun x _ => rfl
              rw [h0 k hN0, if_neg (Nat.lt_irrefl _), HK0.out, fmV_eq, if_neg (by omega)]
              unfold fm1
              rw [if_neg (by omega)]
            · have e5 : decide ((0 : Int) < (k : Int)) = true := decide_eq_true (by omega)
              have e6 : (0 : Int) < (k : Int) := by omega
              have e7 : decide (0 < k) = true := decide_eq_true (by omega)
              have e8 : decide ((0 : Int) < (N : Int)) = true := decide_eq_true (by omega)
              have e9 : (0 : Int) < (N : Int) := by omega
              have e10 : decide (0 < N) = true := decide_eq_true (by omega)
              have cb := (HBOX.out _ HI1.out.st).2.2.1
              have cn0 := HNAM.out _ HI1.out.st 0 (by omega)
              obtain ⟨U1, hU1⟩ : ∃ u, (if k = 8 then 7 else 0) = u := ⟨_, rfl⟩
              have HU1 := Lib.hid hU1
              clear hU1
              go_upto_if 124 with fail
              go_cut [22] from 109 to 256 (fun s22 wx => s22 = .string ⟨(nmL n U1).toArray⟩ ∧ wx = w1)
              case first =>
                as_aux_lemma =>
                have hsy := (nm_sym hn6 HKN.out).1
                rw [Hs.out] at hsy
                by_cases h8 : k = 8
                · have e11 : (s == [83, 121, 109, 98, 111, 108]) = true := hsy.trans (decide_eq_true h8)
                  have H8 := Lib.hid h8
                  have e14 : s = [83, 121, 109, 98, 111, 108] := by simpa using e11
                  have e15 : @BEq.beq (List UInt8) instBEqOfDecidableEq s [83, 121, 109, 98, 111, 108] = true := by simpa using e11
                  clear e14
                  clear hsy h8
                  go_wp2_with fail
                  all_goals first | (exfalso; rename_i h; first | exact absurd (e11.symm.trans h) (by decide) | exact absurd (e15.symm.trans h) (by decide)) | skip
                  go_meet
                  exact ⟨by rw [← HU1.out, if_pos H8.out, nm_7 hn6], rfl⟩
                · have e11 : (s == [83, 121, 109, 98, 111, 108]) = false := hsy.trans (decide_eq_false h8)
                  have H8 := Lib.hid h8
                  have e14 : ¬ s = [83, 121, 109, 98, 111, 108] := by simpa using e11
                  have e15 : @BEq.beq (List UInt8) instBEqOfDecidableEq s [83, 121, 109, 98, 111, 108] = false := by simpa using e11
                  clear hsy h8
                  go_wp2_with fail
                  all_goals first | (exfalso; rename_i h; first | exact absurd (e11.symm.trans h) (by decide) | exact absurd (e15.symm.trans h) (by decide)) | skip
                  go_meet
                  exact ⟨by rw [← HU1.out, if_neg H8.out], rfl⟩
              case rest =>
                obtain ⟨rfl, hwc⟩ := hcut
                rw [hwc]
                clear hwc
                obtain ⟨U, hU⟩ : ∃ u, upL sup k = u := ⟨_, rfl⟩
                have hUk : U < k := by rw [← hU]; exact upL_lt sup k (by omega)
                have HU := Lib.hid hU
                clear hU cn0 e8 e9 e10
                go_upto_if 126 with fail
                go_cut [22] from 109 to 256 (fun s22 wx => s22 = .string ⟨(nmL n U).toArray⟩ ∧ Hid (Mid w.heap.size T sb bl nb fb w K4 (stE n sup flds k) (listsK n k) k (fnF (nmL n) (fun i => ((2 * symAt n i : Nat) : Int)) k) (gnF (nmL n) k) nf ff gf lv vl lsv wx))
                case first =>
                  as_aux_lemma =>
                  by_cases h16 : k < 16
                  · have e11 : decide ((16 : Int) ≤ (k : Int)) = false := decide_eq_false (by omega)
                    have e12 : ¬ (16 : Int) ≤ (k : Int) := by omega
                    have e13 : decide (16 ≤ k) = false := decide_eq_false (by omega)
                    have hUU : U1 = U := by rw [← HU1.out, ← HU.out, upL_cases sup k h16]
                    have HUU := Lib.hid hUU
                    clear hUU
                    go_wp2_with fail
                    go_meet
                    exact ⟨by rw [HUU.out], Lib.hid HI1.out⟩
                  · have e11 : decide ((16 : Int) ≤ (k : Int)) = true := decide_eq_true (by omega)
                    have e12 : (16 : Int) ≤ (k : Int) := by omega
                    have e13 : decide (16 ≤ k) = true := decide_eq_true (by omega)
                    obtain ⟨j, hj⟩ : ∃ j, k - 16 = j := ⟨_, rfl⟩
                    have hjN : j < n := by have := HKN.out; unfold NN at this; omega
                    obtain ⟨gs, off, x, hsa, hx, hgs, hcx⟩ := HSV.out.at_ j (by omega)
                    subst hsa
                    have hxr := HSR.out x (List.mem_of_getElem? hx)
                    have hUx : U = magL x % k := by rw [← HU.out]; unfold upL; rw [if_pos (by omega), hj, List.getD_eq_getElem?_getD, hx]; rfl
                    have hji : (k : Int) - 16 = (j : Int) := by omega
                    have hw5 : IntKind.i64.wrap ((k : Int) - 16) = (j : Int) := by rw [IntKind.wrap_i64]; omega
                    have hw6 : IntKind.i64.wrap (j : Int) = (j : Int) := by rw [IntKind.wrap_i64]; omega
                    have hj0 : (0 : Int) ≤ (j : Int) := by omega
                    have hjl : (j : Int) < (sl : Int) := by omega
                    have hjl2 : j < sl := by omega
                    have HUX := Lib.hid hUx
                    have HXR := Lib.hid hxr
                    have HS3 := Lib.hid (show ∀ v, Sta w.heap.size w v K4 → v.cell? ⟨bn, 0, none⟩ = some (.slice (some ⟨gn, 0, none⟩) N nc) ∧ v.cell? ⟨w.heap.size, 0, none⟩ = some (.slice (some ⟨gs, off, none⟩) sl sc) ∧ v.cell? ⟨gs, off + j, none⟩ = some (.int .i64 x) ∧ v.cell? ⟨gn, U, none⟩ = some (.string ⟨(nmL n U).toArray⟩) from fun v h =>
                      ⟨(HBOX.out v h).2.2.1, (HBOX.out v h).2.2.2.1, (World.cell?_of_block (h.1.block gs hgs)).trans hcx, HNAM.out v h U (by omega)⟩)
                    obtain ⟨wx, hwx⟩ : ∃ y, IntKind.i64.wrap (-x) = y := ⟨_, rfl⟩
                    have hmax : (if (if x < wx then wx else x) < 0 then 0 else if x < wx then wx else x) = ((magL x : Nat) : Int) := by
                      rw [← hwx, IntKind.wrap_i64]
                      unfold magL
                      split <;> split <;> (try split) <;> omega
                    obtain ⟨M, hM⟩ : ∃ M, magL x = M := ⟨_, rfl⟩
                    rw [hM] at hmax hUx
                    have hrem : Int.tmod (M : Int) (k : Int) = (U : Int) := by rw [hUx, Int.ofNat_tmod]
                    have hk0' : ((k : Int) == 0) = false := by simp; omega
                    have hk0'' : ¬ (k : Int) = 0 := by omega
                    have hw7 : IntKind.i64.wrap (U : Int) = (U : Int) := by rw [IntKind.wrap_i64]; omega
                    have hU0 : (0 : Int) ≤ (U : Int) := by omega
                    have hUN : (U : Int) < (N : Int) := by omega
                    have hUN' : U < N := by omega
                    clear hx hgs hcx hUx hxr hj hM
                    go_wp2_with fail
                    refine wp_region_noPanic ?_
                    refine Hd.start (fun v => v.cell? ⟨bn, 0, none⟩ = some (.slice (some ⟨gn, 0, none⟩) N nc) ∧ v.cell? ⟨w.heap.size, 0, none⟩ = some (.slice (some ⟨gs, off, none⟩) sl sc) ∧ v.cell? ⟨gs, off + j, none⟩ = some (.int .i64 x) ∧ v.cell? ⟨gn, U, none⟩ = some (.string ⟨(nmL n U).toArray⟩)) (by kernel_rfl) (HS3.out _ (HI1.out.bel (below_drewN w1 1)).st) (fun hH0 => ?_)
                    refine Hd.tk 0 17 hH0 ?_
                    refine Hd.tk 1 2 hH0 ?_
                    refine Hd.tk 2 5 hH0 ?_
                    refine Hd.tk 3 4 hH0 ?_
                    refine Hd.tk 4 5 hH0 ?_
                    refine Hd.tk 5 6 hH0 ?_
                    refine Hd.tk 6 14 hH0 ?_
                    refine Hd.tk 7 8 hH0 ?_
                    refine Hd.tk 8 11 hH0 ?_
                    refine Hd.tk 9 10 hH0 ?_
                    refine Hd.tk 10 11 hH0 ?_
                    refine Hd.tk 11 12 hH0 ?_
                    refine Hd.tk 12 13 hH0 ?_
                    refine Hd.tk 13 14 hH0 ?_
                    refine Hd.tk 15 16 hH0 ?_
                    refine Hd.on 14 (fun K hK => ?_)
                    go_simp
                    refine hK.out _ _ hH0 (fun hH1 => ?_)
                    clear hK K
                    try simp only [Act.put, List.setIfInBounds_toArray, List.set_cons_zero, List.set_cons_succ]
                    refine Hd.tk 16 17 hH1 ?_
                    refine Hd.tk 17 18 hH1 ?_
                    refine Hd.tk 18 19 hH1 ?_
                    refine Hd.la 19 (fun K hK => ?_)
                    go_simp
                    refine hK.out _ _ ?_
                    clear hK K
                    try simp only [Act.put, List.setIfInBounds_toArray, List.set_cons_zero, List.set_cons_succ]
                    simp only [NoPanic]
                    go_wp2_with fail
                    go_meet
                    exact ⟨rfl, Lib.hid (HI1.out.bel (below_drewN w1 1))⟩
                case rest =>
                  rename World => W2
                  obtain ⟨rfl, hI2⟩ := hcut
                  clear HI1 cb
                  obtain ⟨u, hu⟩ : ∃ u, nmL n U = u := ⟨_, rfl⟩
                  have hul : u.length ≤ 15 := by rw [← hu]; exact nm_len hn6 U
                  have HUn := Lib.hid hu
                  have HUL := Lib.hid hul
                  obtain ⟨C, hC⟩ : ∃ C, 2 * clsAt U = C := ⟨_, rfl⟩
                  obtain ⟨D, hD⟩ : ∃ D, 2 * metaAt n U = D := ⟨_, rfl⟩
                  have HC := Lib.hid hC
                  have HD := Lib.hid hD
                  have HS5 : Hid (∀ v, Sta w.heap.size w v K4 → v.cell? ⟨bc, 0, none⟩ = some (.map (some cm)) ∧ (Instr.lookup MT (.map (some cm)) (.string ⟨u.toArray⟩) false).run Try.prog v = .ok (.int .u64 (C : Int)) v ∧ (Instr.lookup MT (.map (some mm)) (.string ⟨u.toArray⟩) false).run Try.prog v = .ok (.int .u64 (D : Int)) v) := Lib.hid (fun v h => by
                    have h1 := HLK.out v h U (by omega)
                    rw [hu, hC, hD] at h1
                    exact ⟨(HBOX.out v h).2.1, h1⟩)
                  rw [hu]
                  have HI2 := Lib.hid (hI2.out.bel (below_drewN W2 1))
                  clear hu hul hC hD hI2
                  go_wp2_with fail
                  refine wp_region_noPanic ?_
                  refine Hd.start (fun v => v.cell? ⟨bc, 0, none⟩ = some (.map (some cm)) ∧ (Instr.lookup MT (.map (some cm)) (.string ⟨u.toArray⟩) false).run Try.prog v = .ok (.int .u64 (C : Int)) v ∧ (Instr.lookup MT (.map (some mm)) (.string ⟨u.toArray⟩) false).run Try.prog v = .ok (.int .u64 (D : Int)) v) (by kernel_rfl) (HS5.out _ HI2.out.st) (fun hH0 => ?_)
                  refine Hd.tk 0 2 hH0 ?_
                  refine Hd.tk 1 2 hH0 ?_
                  refine Hd.tk 3 5 hH0 ?_
                  refine Hd.tk 4 5 hH0 ?_
                  refine Hd.tk 2 6 hH0 ?_
                  refine Hd.tk 5 7 hH0 ?_
                  refine Hd.tk 6 7 hH0 ?_
                  refine Hd.la 7 (fun K hK => ?_)
                  go_simp
                  refine hK.out _ _ ?_
                  clear hK K
                  try simp only [Act.put, List.setIfInBounds_toArray, List.set_cons_zero, List.set_cons_succ]
                  simp only [NoPanic]
                  have hfs : ff s = ((fmt0 k : Nat) : Int) := by have := HI.out.1 k HKN.out; rw [if_neg (Nat.lt_irrefl _), Hs.out] at this; exact this
                  have hfu : ff u = ((fmV sup flds U : Nat) : Int) := by have := HI.out.1 U (by have := HKN.out; omega); rw [if_pos hUk, HUn.out] at this; exact this
                  obtain ⟨fk, hfk⟩ : ∃ f, fmt0 k = f := ⟨_, rfl⟩
                  obtain ⟨fu, hfu2⟩ : ∃ f, fmV sup flds U = f := ⟨_, rfl⟩
                  have hful : fu ≤ 300 := by rw [← hfu2]; exact fmV_le sup flds U (by omega)
                  rw [hfk] at hfs
                  rw [hfu2] at hfu
                  obtain ⟨f1, hf1⟩ : ∃ f, fm1 sup flds k = f := ⟨_, rfl⟩
                  have HFK := Lib.hid hfk
                  have HFU := Lib.hid hfu2
                  have HF1 := Lib.hid hf1
                  have HFS := Lib.hid hfs
                  have HFFU := Lib.hid hfu
                  have HFUL := Lib.hid hful
                  clear hfk hfu2 hf1 hful
                  have lk1 : (Instr.lookup FMT (.map (some fb)) (.string ⟨s.toArray⟩) false).run Try.prog W2.drew = .ok (.int .i64 (fk : Int)) W2.drew := by
                    have := HI2.out.fmt s (by have := HSLS.out; omega)
                    rw [hfs] at this
                    exact this
                  clear hfs hfu
                  have hob := (nm_sym hn6 (show U < NN n by have := HKN.out; omega)).2
                  rw [HUn.out] at hob
                  obtain ⟨b6, hb6⟩ : ∃ b, decide (fk = 0 ∧ U ≠ 0) = b := ⟨_, rfl⟩
                  have HB6 := Lib.hid hb6
                  clear hb6
                  go_upto_region 36 with fail
                  go_cut [159] from 109 to 256 (fun s159 wx => s159 = .bool b6 ∧ wx = W2.drew)
                  case first =>
                    as_aux_lemma =>
                    by_cases hf0 : fk = 0
                    · by_cases hU0 : U = 0
                      · have hres : decide (fk = 0 ∧ U ≠ 0) = false := decide_eq_false (by omega)
                        have g1 : ((fk : Int) == 0) = true := by simp; omega
                        have g2 : (u == [79, 98, 106, 101, 99, 116]) = true := hob.1.trans (decide_eq_true hU0)
                        have g3 : (u != [79, 98, 106, 101, 99, 116]) = false := hob.2.trans (decide_eq_false (fun h => h hU0))
                        have g4 : @BEq.beq (List UInt8) instBEqOfDecidableEq u [79, 98, 106, 101, 99, 116] = true := by simpa using g2
                        have g5 : @bne (List UInt8) instBEqOfDecidableEq u [79, 98, 106, 101, 99, 116] = false := by simpa using g3
                        clear hob hf0 hU0
                        go_wp2_with fail
                        go_meet
                        exact ⟨by rw [← HB6.out, hres], rfl⟩
                      · have hres : decide (fk = 0 ∧ U ≠ 0) = true := decide_eq_true ⟨hf0, hU0⟩
                        have g1 : ((fk : Int) == 0) = true := by simp; omega
                        have g2 : (u == [79, 98, 106, 101, 99, 116]) = false := hob.1.trans (decide_eq_false hU0)
                        have g3 : (u != [79, 98, 106, 101, 99, 116]) = true := hob.2.trans (decide_eq_true hU0)
                        have g4 : @BEq.beq (List UInt8) instBEqOfDecidableEq u [79, 98, 106, 101, 99, 116] = false := by simpa using g2
                        have g5 : @bne (List UInt8) instBEqOfDecidableEq u [79, 98, 106, 101, 99, 116] = true := by simpa using g3
                        clear hob hf0 hU0
                        go_wp2_with fail
                        go_meet
                        exact ⟨by rw [← HB6.out, hres], rfl⟩
                    · have hres : decide (fk = 0 ∧ U ≠ 0) = false := decide_eq_false (fun h => hf0 h.1)
                      have g1 : ((fk : Int) == 0) = false := by simp; omega
                      clear hob hf0
                      go_wp2_with fail
                      go_meet
                      exact ⟨by rw [← HB6.out, hres], rfl⟩
                  case rest =>
                    obtain ⟨rfl, hwc⟩ := hcut
                    rw [hwc]
                    clear hwc hob lk1
                    go_upto_if 159 with fail
                    go_cut [] from 109 to 256 (fun wx => ∃ nf' ff' gf', nf' ≤ 7 + 2 * k ∧ Hid (ff' s = (f1 : Int) ∧ (∀ x, x ≠ s → ff' x = ff x) ∧ Mid w.heap.size T sb bl nb fb w K4 (stE n sup flds k) (listsK n k) k (fnF (nmL n) (fun i => ((2 * symAt n i : Nat) : Int)) k) (gnF (nmL n) k) nf' ff' gf' lv vl lsv wx))
                    case first =>
                      as_aux_lemma =>
                      cases b6
                      · go_wp2_with fail
                        go_meet
                        refine ⟨nf, ff, gf, by have := HNF.out; omega, Lib.hid ⟨?_, fun _ _ => rfl, HI2.out⟩⟩
                        rw [HFS.out, ← HF1.out, ← HFK.out]
                        unfold fm1
                        have hb := of_decide_eq_false HB6.out
                        rw [if_neg (fun h => hb ⟨by rw [← HFK.out]; exact h.1, by rw [← HU.out]; exact h.2.2⟩)]
                      · have lk2 : (Instr.lookup FMT (.map (some fb)) (.string ⟨u.toArray⟩) false).run Try.prog W2.drew = .ok (.int .i64 (fu : Int)) W2.drew := by
                          have := HI2.out.fmt u (by have := HUL.out; omega)
                          rw [HFFU.out] at this
                          exact this
                        obtain ⟨w5, hput, hM5⟩ := HI2.out.put HOK.out s (by have := HSLS.out; omega) fu (by have := HFUL.out; omega) (by have := HNF.out; omega)
                        have hput' : (Instr.mapUpdate FMT (.map (some fb)) (.string ⟨s.toArray⟩) (.int .i64 (fu : Int))).run Try.prog W2.drew = .ok () w5 := hput
                        have HM5 := Lib.hid hM5
                        clear hM5 hput
                        go_wp2_with fail
                        go_meet
                        refine ⟨nf + 1, _, _, by have := HNF.out; omega, Lib.hid ⟨?_, fun x hx => if_neg hx, HM5.out⟩⟩
                        have hb := of_decide_eq_true HB6.out
                        rw [if_pos rfl, ← HF1.out, ← HFU.out, ← HU.out]
                        unfold fm1
                        rw [if_pos ⟨by rw [HFK.out]; exact hb.1, by omega, by rw [HU.out]; exact hb.2⟩]
                    case rest =>
                      rename World => W4
                      obtain ⟨nf3, ff3, gf3, hnf3, hI3⟩ := hcut
                      have HNF3 := Lib.hid hnf3
                      have lk3 : (Instr.lookup FMT (.map (some fb)) (.string ⟨s.toArray⟩) false).run Try.prog W4 = .ok (.int .i64 (f1 : Int)) W4 := by
                        have := hI3.out.2.2.fmt s (by have := HSLS.out; omega)
                        rw [hI3.out.1] at this
                        exact this
                      have hfa := (HBOX.out _ hI3.out.2.2.st).2.2.2.2
                      have hf1l : f1 ≤ 300 := by
                        rw [← HF1.out]
                        unfold fm1
                        split
                        · exact fmV_le sup flds _ (by have := upL_lt sup k (by omega); omega)
                        · have := fmt0_le k; omega
                      obtain ⟨b8, hb8⟩ : ∃ b, decide (16 ≤ k ∧ k - 16 < fl ∧ f1 % 4 = 0) = b := ⟨_, rfl⟩
                      have HB8 := Lib.hid hb8
                      clear hb8 hnf3
                      go_upto_region 38 with fail
                      go_cut [181] from 109 to 256 (fun s181 wx => s181 = .bool b8 ∧ wx = W4)
                      case first =>
                        as_aux_lemma =>
                        by_cases h16 : k < 16
                        · have e11 : decide ((16 : Int) ≤ (k : Int)) = false := decide_eq_false (by omega)
                          have e12 : ¬ (16 : Int) ≤ (k : Int) := by omega
                          have e13 : decide (16 ≤ k) = false := decide_eq_false (by omega)
                          have hres : decide (16 ≤ k ∧ k - 16 < fl ∧ f1 % 4 = 0) = false := decide_eq_false (by omega)
                          have HRES := Lib.hid hres
                          clear hres
                          go_wp2_with fail
                          go_meet
                          exact ⟨by rw [← HB8.out, HRES.out], rfl⟩
                        · have e11 : decide ((16 : Int) ≤ (k : Int)) = true := decide_eq_true (by omega)
                          have e12 : (16 : Int) ≤ (k : Int) := by omega
                          have e13 : decide (16 ≤ k) = true := decide_eq_true (by omega)
                          obtain ⟨j, hj⟩ : ∃ j, k - 16 = j := ⟨_, rfl⟩
                          have hji : (k : Int) - 16 = (j : Int) := by omega
                          have hw5 : IntKind.i64.wrap ((k : Int) - 16) = (j : Int) := by rw [IntKind.wrap_i64]; omega
                          have hw6 : IntKind.i64.wrap (j : Int) = (j : Int) := by rw [IntKind.wrap_i64]; omega
                          by_cases hjl : j < fl
                          · have e14 : decide ((j : Int) < (fl : Int)) = true := decide_eq_true (by omega)
                            have e15 : decide (j < fl) = true := decide_eq_true hjl
                            obtain ⟨r4, hr4⟩ : ∃ r, f1 % 4 = r := ⟨_, rfl⟩
                            have hrem : Int.tmod (f1 : Int) 4 = (r4 : Int) := by rw [← hr4]; rfl
                            have hw7 : IntKind.i64.wrap (r4 : Int) = (r4 : Int) := by rw [IntKind.wrap_i64]; omega
                            by_cases hr0 : r4 = 0
                            · have e16 : ((r4 : Int) == 0) = true := by simp; omega
                              have hres : decide (16 ≤ k ∧ k - 16 < fl ∧ f1 % 4 = 0) = true := decide_eq_true ⟨by omega, by omega, by omega⟩
                              have HRES := Lib.hid hres
                              clear hres hr4 hj hr0
                              go_wp2_with fail
                              go_meet
                              exact ⟨by rw [← HB8.out, HRES.out], rfl⟩
                            · have e16 : ((r4 : Int) == 0) = false := by simp; omega
                              have hres : decide (16 ≤ k ∧ k - 16 < fl ∧ f1 % 4 = 0) = false := decide_eq_false (by omega)
                              have HRES := Lib.hid hres
                              clear hres hr4 hj hr0
                              go_wp2_with fail
                              go_meet
                              exact ⟨by rw [← HB8.out, HRES.out], rfl⟩
                          · have e14 : decide ((j : Int) < (fl : Int)) = false := decide_eq_false (by omega)
                            have e15 : decide (j < fl) = false := decide_eq_false hjl
                            have hres : decide (16 ≤ k ∧ k - 16 < fl ∧ f1 % 4 = 0) = false := decide_eq_false (by omega)
                            have HRES := Lib.hid hres
                            clear hres hj
                            go_wp2_with fail
                            go_meet
                            exact ⟨by rw [← HB8.out, HRES.out], rfl⟩
                      case rest =>
                        obtain ⟨rfl, hwc⟩ := hcut
                        rw [hwc]
                        clear hwc lk3
                        go_upto_if 181 with fail
                        as_aux_lemma =>
                        have hSU : (C : Int) = (SU : Int) := by rw [← HSU.out, if_neg hk0, HU.out, HC.out]
                        have hAB : (D : Int) = (AB : Int) := by rw [← HAB.out, if_neg hk0, HU.out, HD.out]
                        have HFIN : Hid (∀ (G : Bts → Int), G s = ((fmV sup flds k : Nat) : Int) → (∀ x, x ≠ s → G x = ff x) → FmtOk n sup flds (k + 1) G) := Lib.hid (fun G h1 h2 => HI.out.1.step hn6 HKN.out (by rw [Hs.out]; exact h1) (by rw [Hs.out]; exact h2))
                        have HSA := Lib.hid hSU
                        have HSB := Lib.hid hAB
                        clear hSU hAB
                        cases b8
                        · go_wp2_with fail
                          go_meet
                          refine ⟨by rw [HSA.out], by rw [HSB.out], nf3, ff3, gf3, by have := HNF3.out; omega, Lib.hid ⟨HFIN.out _ ?_ hI3.out.2.1, hI3.out.2.2⟩⟩
                          rw [hI3.out.1, fmV_eq, HF1.out, HFL.out, if_neg (of_decide_eq_false HB8.out)]
                        · have hb := of_decide_eq_true HB8.out
                          obtain ⟨j, hj⟩ : ∃ j, k - 16 = j := ⟨_, rfl⟩
                          obtain ⟨gs, off, x, hsa, hx, hgs, hcx⟩ := HFV.out.at_ j (by omega)
                          subst hsa
                          have hxr := HFR.out x (List.mem_of_getElem? hx)
                          have hji : (k : Int) - 16 = (j : Int) := by omega
                          have hw5 : IntKind.i64.wrap ((k : Int) - 16) = (j : Int) := by rw [IntKind.wrap_i64]; omega
                          have hw6 : IntKind.i64.wrap (j : Int) = (j : Int) := by rw [IntKind.wrap_i64]; omega
                          have hj0 : (0 : Int) ≤ (j : Int) := by omega
                          have hjl : (j : Int) < (fl : Int) := by omega
                          have hjl2 : j < fl := by omega
                          obtain ⟨t1, ht1⟩ : ∃ t, Int.tmod x 4 = t := ⟨_, rfl⟩
                          have ht1r : -3 ≤ t1 ∧ t1 ≤ 3 ∧ ∃ q, x = 4 * q + t1 := by
                            have h1 := Int.mul_tdiv_add_tmod x 4
                            rw [ht1] at h1
                            have h2 := Int.tmod_lt_of_pos x (show (0 : Int) < 4 by omega)
                            have h3 := Int.lt_tmod_of_pos x (show (0 : Int) < 4 by omega)
                            rw [ht1] at h2 h3
                            exact ⟨by omega, by omega, _, h1.symm⟩
                          obtain ⟨t2, ht2⟩ : ∃ t, t1 + 4 = t := ⟨_, rfl⟩
                          obtain ⟨t3, ht3⟩ : ∃ t : Nat, (x % 4).toNat = t := ⟨_, rfl⟩
                          have ht23 : Int.tmod t2 4 = (t3 : Int) := by
                            obtain ⟨h1, h2, q, hq⟩ := ht1r
                            rw [Int.tmod_eq_emod_of_nonneg (by omega)]
                            omega
                          have ht3l : t3 ≤ 3 := by omega
                          have hw11 : IntKind.i64.wrap t1 = t1 := by rw [IntKind.wrap_i64]; omega
                          have hw12 : IntKind.i64.wrap t2 = t2 := by rw [IntKind.wrap_i64]; omega
                          have hw13 : IntKind.i64.wrap (t3 : Int) = (t3 : Int) := by rw [IntKind.wrap_i64]; omega
                          obtain ⟨t4, ht4⟩ : ∃ t : Nat, 4 * t3 = t := ⟨_, rfl⟩
                          have ht4' : 4 * (t3 : Int) = (t4 : Int) := by omega
                          have hw14 : IntKind.i64.wrap (t4 : Int) = (t4 : Int) := by rw [IntKind.wrap_i64]; omega
                          obtain ⟨t5, ht5⟩ : ∃ t : Nat, f1 + t4 = t := ⟨_, rfl⟩
                          have ht5' : (f1 : Int) + (t4 : Int) = (t5 : Int) := by omega
                          have hw15 : IntKind.i64.wrap (t5 : Int) = (t5 : Int) := by rw [IntKind.wrap_i64]; omega
                          have hval : fmV sup flds k = t5 := by
                            rw [fmV_eq, HF1.out, HFL.out, if_pos hb, hj, List.getD_eq_getElem?_getD, hx]
                            show f1 + 4 * (x % 4).toNat = t5
                            rw [ht3]; omega
                          have hMd := hI3.out.2.2.bel (below_drewN W4 1)
                          obtain ⟨w5, hput, hM5⟩ := hMd.put HOK.out s (by have := HSLS.out; omega) t5 (by omega) (by have := HNF3.out; omega)
                          have hput' : (Instr.mapUpdate FMT (.map (some fb)) (.string ⟨s.toArray⟩) (.int .i64 (t5 : Int))).run Try.prog W4.drew = .ok () w5 := hput
                          have HM5 := Lib.hid hM5
                          have HVAL := Lib.hid hval
                          have HI3 := Lib.hid hI3.out
                          have HS7 : Hid (∀ v, W4.drew = v → v.cell? ⟨w.heap.size, 1, none⟩ = some (.slice (some ⟨gs, off, none⟩) fl fc) ∧ v.cell? ⟨gs, off + j, none⟩ = some (.int .i64 x) ∧ (Instr.lookup FMT (.map (some fb)) (.string ⟨s.toArray⟩) false).run Try.prog v = .ok (.int .i64 (f1 : Int)) v) := Lib.hid (fun v e => by
                            rw [← e]
                            have h := hMd.fmt s (by have := HSLS.out; omega)
                            rw [hI3.out.1] at h
                            exact ⟨(HBOX.out _ hMd.st).2.2.2.2, (World.cell?_of_block (hMd.st.1.block gs hgs)).trans hcx, h⟩)
                          clear hMd hput hM5 hval hI3 hx hgs hcx hxr hj ht1r ht3 ht4 ht5 hb hfa
                          go_wp2_with fail
                          refine wp_region_noPanic ?_
                          refine Hd.start (fun v => v.cell? ⟨w.heap.size, 1, none⟩ = some (.slice (some ⟨gs, off, none⟩) fl fc) ∧ v.cell? ⟨gs, off + j, none⟩ = some (.int .i64 x) ∧ (Instr.lookup FMT (.map (some fb)) (.string ⟨s.toArray⟩) false).run Try.prog v = .ok (.int .i64 (f1 : Int)) v) (by kernel_rfl) (HS7.out _ rfl) (fun hH0 => ?_)
                          refine Hd.tk 0 2 hH0 ?_
                          refine Hd.tk 1 2 hH0 ?_
                          refine Hd.tk 2 13 hH0 ?_
                          refine Hd.tk 3 4 hH0 ?_
                          refine Hd.tk 4 7 hH0 ?_
                          refine Hd.tk 5 6 hH0 ?_
                          refine Hd.tk 6 7 hH0 ?_
                          refine Hd.tk 7 8 hH0 ?_
                          refine Hd.tk 8 9 hH0 ?_
                          refine Hd.tk 9 10 hH0 ?_
                          refine Hd.tk 10 11 hH0 ?_
                          refine Hd.tk 11 12 hH0 ?_
                          refine Hd.tk 12 13 hH0 ?_
                          refine Hd.tk 13 14 hH0 ?_
                          refine Hd.la 14 (fun K hK => ?_)
                          go_simp
                          refine hK.out _ _ ?_
                          clear hK K
                          try simp only [Act.put, List.setIfInBounds_toArray, List.set_cons_zero, List.set_cons_succ]
                          simp only [NoPanic]
                          go_wp2_with fail
                          go_meet
                          refine ⟨by rw [HSA.out], by rw [HSB.out], nf3 + 1, _, _, by have := HNF3.out; omega, Lib.hid ⟨HFIN.out _ ?_ fun x hx => ?_, HM5.out⟩⟩
                          · rw [if_pos rfl, HVAL.out]
                          · rw [if_neg hx]; exact HI3.out.2.1 x hx
          case rest =>
            as_aux_lemma =>
            obtain ⟨rfl, rfl, nf2, ff2, gf2, hnf2, hI2⟩ := hcut
            have HNF2 := Lib.hid hnf2
            obtain ⟨P0, hP0⟩ : ∃ v, 2 * pA n k 0 = v := ⟨_, rfl⟩
            obtain ⟨P1, hP1⟩ : ∃ v, 2 * pA n k 1 = v := ⟨_, rfl⟩
            obtain ⟨P2, hP2⟩ : ∃ v, 2 * pA n k 2 = v := ⟨_, rfl⟩
            obtain ⟨P3, hP3⟩ : ∃ v, 2 * pA n k 3 = v := ⟨_, rfl⟩
            obtain ⟨P4, hP4⟩ : ∃ v, 2 * pA n k 4 = v := ⟨_, rfl⟩
            obtain ⟨C1, hC1⟩ : ∃ v, 2 * clsAt k = v := ⟨_, rfl⟩
            obtain ⟨D1, hD1⟩ : ∃ v, 2 * metaAt n k = v := ⟨_, rfl⟩
            obtain ⟨C2, hC2⟩ : ∃ v, 2 * clsAt 2 = v := ⟨_, rfl⟩
            obtain ⟨fv, hfv⟩ : ∃ v, fmV sup flds k = v := ⟨_, rfl⟩
            have hfvl : fv ≤ 300 := by rw [← hfv]; exact fmV_le sup flds k (by omega)
            obtain ⟨WF, hWF⟩ : ∃ v, wordN fv = v := ⟨_, rfl⟩
            have HP0 := Lib.hid hP0
            have HP1 := Lib.hid hP1
            have HP2 := Lib.hid hP2
            have HP3 := Lib.hid hP3
            have HP4 := Lib.hid hP4
            have HC1 := Lib.hid hC1
            have HD1 := Lib.hid hD1
            have HC2 := Lib.hid hC2
            have HFV1 := Lib.hid hfv
            have HWF := Lib.hid hWF
            have hfs : ff2 s = (fv : Int) := by have := hI2.out.1 k HKN.out; rw [if_pos (Nat.lt_succ_self _), hfv, Hs.out] at this; exact this
            have HFO := Lib.hid hI2.out.1
            have hWD := fun v => word_any fv (by omega) v
            rw [hWF] at hWD
            have HWD := Lib.hid hWD
            have HW20 := Lib.hid (fun v => word_any 20 (by omega) v)
            have HLL : Hid ((listsK n k).length ≤ 100) := Lib.hid (by rw [listsK_len]; omega)
            have HPT : Hid (∀ v, Sta w.heap.size w v K4 → Blk PTT bt #[.pointer (some ⟨T, 0, none⟩)] v) := Lib.hid (fun v h => (HG0.out v (HG3.out v (HG4.out v h).2).2.2.2).2.2.1)
            have HS8 : Hid (∀ L LS ns fs gs lv vl lsv v, Mid w.heap.size T sb bl nb fb w K4 (L) LS ns fs gs nf2 ff2 gf2 lv vl lsv v → v.cell? ⟨bt, 0, none⟩ = some (.pointer (some ⟨T, 0, none⟩)) ∧ (Instr.lookup FMT (.map (some fb)) (.string ⟨s.toArray⟩) false).run Try.prog v = .ok (.int .i64 (fv : Int)) v) := Lib.hid (fun L LS ns fs gs lv vl lsv v h => by
              have := h.fmt s (by have := HSLS.out; omega)
              rw [hfs] at this
              exact ⟨(HBOX.out _ h.st).1, this⟩)
            have hM0 := hI2.out.2.bel (below_drewN wc 1)
            have e0 : stE n sup flds k ++ pz n k 0 = stE n sup flds k := List.append_nil _
            rw [← e0] at hM0
            have HM0 := Lib.hid hM0
            have HSYM : Hid (∀ (LS : List Nat) (lv : Value) (vl : List OV) (lsv : Value) (v : World), Mid w.heap.size T sb bl nb fb w K4 (stE n sup flds k ++ pz n k 1) LS k (fnF (nmL n) (fun i => ((2 * symAt n i : Nat) : Int)) k) (gnF (nmL n) k) nf2 ff2 gf2 lv vl lsv v → Calls Try.prog 43 #[.pointer (some ⟨T, 0, none⟩), .string ⟨s.toArray⟩] v (fun e v' => ∃ lv' vl', e = .returned (.int .u64 (P1 : Int)) ∧ Mid w.heap.size T sb bl nb fb w K4 (stE n sup flds k ++ pz n k 2) LS (k + 1) (fnF (nmL n) (fun i => ((2 * symAt n i : Nat) : Int)) (k + 1)) (gnF (nmL n) (k + 1)) nf2 ff2 gf2 lv' vl' lsv v')) := Lib.hid (fun LS lv vl lsv v h => by
              have := h.symP HOK.out hn6 HKN.out rfl
              rw [Hs.out, HP1.out] at this
              exact this)
            clear hP0 hP1 hP2 hP3 hP4 hC1 hD1 hC2 hfv hWF hfs hI2 hM0 e0 hnf2 hWD
            go_wp2_with fail
            refine wp_region_noPanic ?_
            refine Hd.start (fun v => v.cell? ⟨bt, 0, none⟩ = some (.pointer (some ⟨T, 0, none⟩)) ∧ (Instr.lookup FMT (.map (some fb)) (.string ⟨s.toArray⟩) false).run Try.prog v = .ok (.int .i64 (fv : Int)) v) (by kernel_rfl) (HS8.out _ _ _ _ _ _ _ _ _ HM0.out) (fun hH0 => ?_)
            refine Hd.tk 0 12 hH0 ?_
            refine Hd.tk 1 2 hH0 ?_
            refine Hd.tk 3 5 hH0 ?_
            refine Hd.tk 4 5 hH0 ?_
            refine Hd.tk 5 6 hH0 ?_
            refine Hd.tk 7 9 hH0 ?_
            refine Hd.tk 8 9 hH0 ?_
            refine Hd.tk 10 11 hH0 ?_
            refine Hd.on 2 (fun K hK => ?_)
            go_simp
            refine (HM0.out.listP HOK.out (HPT.out _ HM0.out.st) hn6 HKN.out (.inl rfl) (by have := HLL.out; omega)).mono ?_; rintro e v1 ⟨lv1, vl1, ls1, rfl, hV1⟩
            have HV1 := Lib.hid hV1
            clear hV1
            rw [HP0.out]
            refine hK.out _ _ (HS8.out _ _ _ _ _ _ _ _ _ HV1.out) (fun hH1 => ?_)
            clear hK K
            try simp only [Act.put, List.setIfInBounds_toArray, List.set_cons_zero, List.set_cons_succ]
            refine Hd.on 6 (fun K hK => ?_)
            go_simp
            refine (HWD.out v1).mono ?_; rintro e v2 ⟨rfl, rfl⟩
            refine hK.out _ _ hH1 (fun hH2 => ?_)
            clear hK K
            try simp only [Act.put, List.setIfInBounds_toArray, List.set_cons_zero, List.set_cons_succ]
            refine Hd.on 9 (fun K hK => ?_)
            go_simp
            refine (HSYM.out _ _ _ _ _ HV1.out).mono ?_; rintro e v3 ⟨lv3, vl3, rfl, hV3⟩
            have HV3 := Lib.hid hV3
            clear hV3
            refine hK.out _ _ (HS8.out _ _ _ _ _ _ _ _ _ HV3.out) (fun hH3 => ?_)
            clear hK K
            try simp only [Act.put, List.setIfInBounds_toArray, List.set_cons_zero, List.set_cons_succ]
            refine Hd.on 11 (fun K hK => ?_)
            go_simp
            refine (HV3.out.listP HOK.out (HPT.out _ HV3.out.st) hn6 HKN.out (.inr (.inl rfl)) (by have := HLL.out; simp only [List.length_append, List.length_cons, List.length_nil]; omega)).mono ?_; rintro e v4 ⟨lv4, vl4, ls4, rfl, hV4⟩
            rw [HP0.out, HP2.out] at hV4
            have hV5 := hV4.row [SU, P0, WF, P1, P2] (by simp)
            obtain ⟨W40, hal40⟩ : ∃ W, v4.alloc (.cells #[.int .u64 (SU : Int), .int .u64 (P0 : Int), .int .u64 (WF : Int), .int .u64 (P1 : Int), .int .u64 (P2 : Int)] UT) = W := ⟨_, rfl⟩
            obtain ⟨cb, hcb⟩ : ∃ b, v4.heap.size = b := ⟨_, rfl⟩
            rw [hcb] at hV5
            obtain ⟨K5, hK5⟩ : ∃ l : List Th, l = thR w.heap.size UT 5 (.slice (some ⟨cb, 0, none⟩) 5 5) ([SU, P0, WF, P1, P2].map uV) :: K4 := ⟨_, rfl⟩
            have hV6 : Mid w.heap.size T sb bl nb fb w K5 (stE n sup flds k ++ pz n k 3) (listsK n k ++ [P0] ++ [P2]) (k + 1) (fnF (nmL n) (fun i => ((2 * symAt n i : Nat) : Int)) (k + 1)) (gnF (nmL n) (k + 1)) nf2 ff2 gf2 lv4 vl4 ls4 W40 := by rw [← hal40, hK5]; exact hV5
            have HOK5 : Hid (KOk w.heap.size sb bl nb fb K5) := Lib.hid (by rw [hK5]; exact HOK.out.row)
            have HG5 : Hid (∀ v, Sta w.heap.size w v K5 → OwnU w.heap.size v (.slice (some ⟨cb, 0, none⟩) 5 5) [SU, P0, WF, P1, P2] ∧ Sta w.heap.size w v K4) := Lib.hid (fun v h => by rw [hK5] at h; exact ⟨h.p0, h.tl⟩)
            have HK5 := Lib.hid hK5
            have HV6 := Lib.hid hV6
            have hS8 := HS8.out _ _ _ _ _ _ _ _ _ hV4
            have hS8' : W40.cell? ⟨bt, 0, none⟩ = some (.pointer (some ⟨T, 0, none⟩)) ∧ (Instr.lookup FMT (.map (some fb)) (.string ⟨s.toArray⟩) false).run Try.prog W40 = .ok (.int .i64 (fv : Int)) W40 := HS8.out _ _ _ _ _ _ _ _ _ (by rw [hK5] at hV6; exact hV6.tl)
            clear hV4 hV5 hV6 hK5
            rw [HP2.out]
            refine hK.out _ _ hS8 (fun hH4 => ?_)
            clear hK K
            try simp only [Act.put, List.setIfInBounds_toArray, List.set_cons_zero, List.set_cons_succ]
            refine Hd.on 12 (fun K hK => ?_)
            go_simp
            refine hK.out _ _ hS8' (fun hH5 => ?_)
            clear hK K
            try simp only [Act.put, List.setIfInBounds_toArray, List.set_cons_zero, List.set_cons_succ]
            refine Hd.la 13 (fun K hK => ?_)
            go_simp
            refine hK.out _ _ ?_
            clear hK K
            try simp only [Act.put, List.setIfInBounds_toArray, List.set_cons_zero, List.set_cons_succ]
            simp only [NoPanic]
            clear hH0 hH1 hH2 hH3 hH4 hH5 hS8 hS8' hal40 hcb HV1 HV3 HM0
            have HS9 : Hid (∀ v, Sta w.heap.size w v K5 → v.cell? ⟨bc, 0, none⟩ = some (.map (some cm)) ∧ (Instr.lookup MT (.map (some cm)) (.string ⟨s.toArray⟩) false).run Try.prog v = .ok (.int .u64 (C1 : Int)) v) := Lib.hid (fun v h => by
              have h4 := (HG5.out v h).2
              have := (HLK.out v h4 k hkn).1
              rw [Hs.out, HC1.out] at this
              exact ⟨(HBOX.out v h4).2.1, this⟩)
            have HM7 := Lib.hid (HV6.out.bel (below_drewN W40 1))
            clear HV6
            go_wp2_with fail
            refine wp_region_noPanic ?_
            refine Hd.start (fun v => v.cell? ⟨bc, 0, none⟩ = some (.map (some cm)) ∧ (Instr.lookup MT (.map (some cm)) (.string ⟨s.toArray⟩) false).run Try.prog v = .ok (.int .u64 (C1 : Int)) v) (by kernel_rfl) (HS9.out _ HM7.out.st) (fun hH0 => ?_)
            refine Hd.tk 0 9 hH0 ?_
            refine Hd.tk 1 2 hH0 ?_
            refine Hd.tk 4 6 hH0 ?_
            refine Hd.tk 5 6 hH0 ?_
            refine Hd.tk 6 9 hH0 ?_
            refine Hd.tk 7 8 hH0 ?_
            refine Hd.on 2 (fun K hK => ?_)
            go_simp
            refine (HM7.out.listP HOK5.out (HPT.out _ (HG5.out _ HM7.out.st).2) hn6 HKN.out (.inr (.inr (.inl rfl))) (by have := HLL.out; simp only [List.length_append, List.length_cons, List.length_nil]; omega)).mono ?_; rintro e v5 ⟨lv5, vl5, ls5, rfl, hV5⟩
            have HV5 := Lib.hid hV5
            clear hV5
            rw [HP3.out]
            refine hK.out _ _ (HS9.out _ HV5.out.st) (fun hH1 => ?_)
            clear hK K
            try simp only [Act.put, List.setIfInBounds_toArray, List.set_cons_zero, List.set_cons_succ]
            refine Hd.on 3 (fun K hK => ?_)
            go_simp
            refine (HW20.out v5).mono ?_; rintro e v6 ⟨rfl, rfl⟩
            rw [show ((wordN 20 : Nat) : Int) = 41 from rfl]
            refine hK.out _ _ hH1 (fun hH2 => ?_)
            clear hK K
            try simp only [Act.put, List.setIfInBounds_toArray, List.set_cons_zero, List.set_cons_succ]
            refine Hd.on 8 (fun K hK => ?_)
            go_simp
            refine (HV5.out.listP HOK5.out (HPT.out _ (HG5.out _ HV5.out.st).2) hn6 HKN.out (.inr (.inr (.inr rfl))) (by have := HLL.out; simp only [List.length_append, List.length_cons, List.length_nil]; omega)).mono ?_; rintro e v7 ⟨lv7, vl7, ls7, rfl, hV7⟩
            rw [HP3.out, HP4.out] at hV7
            have hV8 := hV7.row [AB, P3, 41, C1, P4] (by simp)
            obtain ⟨W41, hal41⟩ : ∃ W, v7.alloc (.cells #[.int .u64 (AB : Int), .int .u64 (P3 : Int), .int .u64 41, .int .u64 (C1 : Int), .int .u64 (P4 : Int)] UT) = W := ⟨_, rfl⟩
            obtain ⟨db, hdb⟩ : ∃ b, v7.heap.size = b := ⟨_, rfl⟩
            rw [hdb] at hV8
            obtain ⟨K6, hK6⟩ : ∃ l : List Th, l = thR w.heap.size UT 5 (.slice (some ⟨db, 0, none⟩) 5 5) ([AB, P3, 41, C1, P4].map uV) :: K5 := ⟨_, rfl⟩
            have hV9 : Mid w.heap.size T sb bl nb fb w K6 (stE n sup flds k ++ pz n k 5) (listsK n k ++ [P0] ++ [P2] ++ [P3] ++ [P4]) (k + 1) (fnF (nmL n) (fun i => ((2 * symAt n i : Nat) : Int)) (k + 1)) (gnF (nmL n) (k + 1)) nf2 ff2 gf2 lv7 vl7 ls7 W41 := by rw [← hal41, hK6]; exact hV8
            have HOK6 : Hid (KOk w.heap.size sb bl nb fb K6) := Lib.hid (by rw [hK6]; exact HOK5.out.row)
            have HG6 : Hid (∀ v, Sta w.heap.size w v K6 → OwnU w.heap.size v (.slice (some ⟨db, 0, none⟩) 5 5) [AB, P3, 41, C1, P4] ∧ Sta w.heap.size w v K5) := Lib.hid (fun v h => by rw [hK6] at h; exact ⟨h.p0, h.tl⟩)
            have HK6 := Lib.hid hK6
            have HV9 := Lib.hid hV9
            have hS9 := HS9.out _ hV7.st
            have hS9' := HS9.out _ (HG6.out _ hV9.st).2
            clear hV7 hV8 hV9 hK6
            rw [HP4.out]
            refine hK.out _ _ hS9 (fun hH3 => ?_)
            clear hK K
            try simp only [Act.put, List.setIfInBounds_toArray, List.set_cons_zero, List.set_cons_succ]
            refine Hd.on 9 (fun K hK => ?_)
            go_simp
            refine hK.out _ _ hS9' (fun hH4 => ?_)
            clear hK K
            try simp only [Act.put, List.setIfInBounds_toArray, List.set_cons_zero, List.set_cons_succ]
            refine Hd.la 10 (fun K hK => ?_)
            go_simp
            refine hK.out _ _ ?_
            clear hK K
            try simp only [Act.put, List.setIfInBounds_toArray, List.set_cons_zero, List.set_cons_succ]
            simp only [NoPanic]
            clear hH0 hH1 hH2 hH3 hH4 hS9 hS9' hal41 hdb HV5 HM7
            have HSX : Hid (∀ v, Sta w.heap.size w v K6 → v.cell? ⟨bt, 0, none⟩ = some (.pointer (some ⟨T, 0, none⟩)) ∧ v.cell? ⟨bc, 0, none⟩ = some (.map (some cm)) ∧ (Instr.lookup MT (.map (some cm)) (.string ⟨s.toArray⟩) false).run Try.prog v = .ok (.int .u64 (C1 : Int)) v ∧ (Instr.lookup MT (.map (some mm)) (.string ⟨s.toArray⟩) false).run Try.prog v = .ok (.int .u64 (D1 : Int)) v) := Lib.hid (fun v h => by
              have h4 := (HG5.out v (HG6.out v h).2).2
              have := HLK.out v h4 k hkn
              rw [Hs.out, HC1.out, HD1.out] at this
              exact ⟨(HBOX.out v h4).1, (HBOX.out v h4).2.1, this⟩)
            have hMa := HV9.out.bel (below_drewN W41 1)
            have hpe := pz_end (n := n) (k := k) (sup := sup) (flds := flds) hn6 HKN.out
            have hpg := pz_get (n := n) (k := k) (sup := sup) (flds := flds) HKN.out
            obtain ⟨LL, hLL⟩ : ∃ L, stE n sup flds k ++ pz n k 5 = L := ⟨_, rfl⟩
            rw [hLL] at hMa hpe hpg
            obtain ⟨xa, hxa, hxa1⟩ := vl_at hMa.eq hpg.1
            obtain ⟨xb, hxb, hxb1⟩ := vl_at hMa.eq hpg.2
            obtain ⟨g, lc, hlv⟩ := hMa.tw.g hxa
            obtain ⟨m, hm⟩ : ∃ m, vl7.length = m := ⟨_, rfl⟩
            rw [hm] at hlv
            obtain ⟨ia, hia⟩ : ∃ i, 1 + k = i := ⟨_, rfl⟩
            obtain ⟨ib, hib⟩ : ∃ i, 1 + NN n + k = i := ⟨_, rfl⟩
            rw [hia] at hpg hxa
            rw [hib] at hpg hxb
            have hab : ia ≠ ib := by unfold NN at hib; omega
            have HLL2 := Lib.hid hLL
            have HIA := Lib.hid hia
            have HIB := Lib.hid hib
            have HAB2 := Lib.hid hab
            have HPE := Lib.hid hpe
            have HPG := Lib.hid hpg
            have HXA := Lib.hid hxa
            have HXB := Lib.hid hxb
            have HXA1 := Lib.hid hxa1
            have HXB1 := Lib.hid hxb1
            have hAt1 := Lib.hid (hMa.at_ hlv hpe.1 (by omega) hpg.1 HC1.out)
            have HMA := Lib.hid hMa
            have HLV := Lib.hid hlv
            have hSXa := HSX.out _ hMa.st
            clear hMa hpe hpg hLL hxa hxa1 hxb hxb1 hlv hm hia hib hab HV9
            go_wp2_with fail
            refine wp_region_noPanic ?_
            refine Hd.start (fun v => v.cell? ⟨bt, 0, none⟩ = some (.pointer (some ⟨T, 0, none⟩)) ∧ v.cell? ⟨bc, 0, none⟩ = some (.map (some cm)) ∧ (Instr.lookup MT (.map (some cm)) (.string ⟨s.toArray⟩) false).run Try.prog v = .ok (.int .u64 (C1 : Int)) v ∧ (Instr.lookup MT (.map (some mm)) (.string ⟨s.toArray⟩) false).run Try.prog v = .ok (.int .u64 (D1 : Int)) v) (by kernel_rfl) hSXa (fun hH0 => ?_)
            refine Hd.tk 0 4 hH0 ?_
            refine Hd.tk 1 3 hH0 ?_
            refine Hd.tk 2 3 hH0 ?_
            refine Hd.tk 3 4 hH0 ?_
            refine Hd.tk 5 9 hH0 ?_
            refine Hd.tk 6 8 hH0 ?_
            refine Hd.tk 7 8 hH0 ?_
            refine Hd.tk 8 9 hH0 ?_
            refine Hd.tk 10 14 hH0 ?_
            refine Hd.tk 11 17 hH0 ?_
            refine Hd.on 4 (fun K hK => ?_)
            go_simp
            refine hAt1.out.mono ?_; rintro e v8 ⟨rfl, hb8⟩
            have hMb := HMA.out.bel hb8
            have hAt2 := Lib.hid (hMb.at_ HLV.out HPE.out.1 (by have := HPE.out.2; omega) HPG.out.2 HD1.out)
            have HMB := Lib.hid hMb
            clear hb8 hMb hSXa
            refine hK.out _ _ (HSX.out _ HMB.out.st) (fun hH1 => ?_)
            clear hK K
            try simp only [Act.put, List.setIfInBounds_toArray, List.set_cons_zero, List.set_cons_succ]
            refine Hd.on 9 (fun K hK => ?_)
            go_simp
            refine hAt2.out.mono ?_; rintro e v9 ⟨rfl, hb9⟩
            have hMc0 := HMB.out.bel hb9
            have hlv := HLV.out
            subst hlv
            have hMc := hMc0
            have hK6 := HG6.out _ hMc.st
            have hca := (hMc.tw.cells HXA.out).1.2.2.2.2.2.2.1
            have hfz := (hMc.tw.cells HXA.out).2 (ia * 8 + 6)
            have hnb5 : ∀ b, (Value.slice (some ⟨cb, 0, none⟩) 5 5).ownBlock = some b → ls7.ownBlock ≠ some b := fun b hb => hMc.nb (thR w.heap.size UT 5 (.slice (some ⟨cb, 0, none⟩) 5 5) ([SU, P0, WF, P1, P2].map uV)) (by rw [HK6.out, HK5.out]; exact List.mem_cons_of_mem _ (List.mem_cons_self ..)) rfl b hb
            have hMd := hMc.setW HOK6.out HXA.out (hK6.2 |> fun h => (HG5.out _ h).1) hnb5
            have hxb' : (vl7.set ia ({ xa.1 with words := [SU, P0, WF, P1, P2] }, Value.slice (some ⟨cb, 0, none⟩) 5 5, xa.2.2))[ib]? = some xb := by rw [List.getElem?_set_ne HAB2.out]; exact HXB.out
            have hcb' := (hMd.tw.cells hxb').1.2.2.2.2.2.2.1
            have hfz' := (hMd.tw.cells hxb').2 (ib * 8 + 6)
            have hnb6 : ∀ b, (Value.slice (some ⟨db, 0, none⟩) 5 5).ownBlock = some b → ls7.ownBlock ≠ some b := fun b hb => hMc.nb (thR w.heap.size UT 5 (.slice (some ⟨db, 0, none⟩) 5 5) ([AB, P3, 41, C1, P4].map uV)) (by rw [HK6.out]; exact List.mem_cons_self ..) rfl b hb
            have hMe := hMd.setW HOK6.out hxb' (HG6.out _ hMd.st).1 hnb6
            have HMD := Lib.hid hMd
            have HME := Lib.hid hMe
            have hSXc := HSX.out _ hMc.st
            have hSXd := HSX.out _ hMd.st
            clear hb9 hMc0 hMc hK6 hnb5 hnb6 hMd hMe hxb' HMA HMB
            refine hK.out _ _ hSXc (fun hH2 => ?_)
            clear hK K
            try simp only [Act.put, List.setIfInBounds_toArray, List.set_cons_zero, List.set_cons_succ]
            refine Hd.tk 12 13 hH2 ?_
            refine Hd.tk 13 14 hH2 ?_
            refine Hd.on 14 (fun K hK => ?_)
            go_simp
            refine hK.out _ _ hSXd (fun hH3 => ?_)
            clear hK K
            try simp only [Act.put, List.setIfInBounds_toArray, List.set_cons_zero, List.set_cons_succ]
            refine Hd.tk 15 16 hH3 ?_
            refine Hd.tk 16 17 hH3 ?_
            refine Hd.la 17 (fun K hK => ?_)
            go_simp
            refine hK.out _ _ ?_
            clear hK K
            try simp only [Act.put, List.setIfInBounds_toArray, List.set_cons_zero, List.set_cons_succ]
            simp only [NoPanic]
            clear hH0 hH1 hH2 hH3 hSXc hSXd hca hfz hcb' hfz' HMD
            obtain ⟨W42, hW42⟩ : ∃ W, (v9.setCell ⟨g, ia * 8 + 6, none⟩ (.slice (some ⟨cb, 0, none⟩) 5 5)).setCell ⟨g, ib * 8 + 6, none⟩ (.slice (some ⟨db, 0, none⟩) 5 5) = W := ⟨_, rfl⟩
            rw [hW42] at HME
            rw [hW42]
            clear hW42
            obtain ⟨X1, hX1⟩ : ∃ X : OV, X = ({ xa.1 with words := [SU, P0, WF, P1, P2] }, Value.slice (some ⟨cb, 0, none⟩) 5 5, xa.2.2) := ⟨_, rfl⟩
            obtain ⟨X2, hX2⟩ : ∃ X : OV, X = ({ xb.1 with words := [AB, P3, 41, C1, P4] }, Value.slice (some ⟨db, 0, none⟩) 5 5, xb.2.2) := ⟨_, rfl⟩
            obtain ⟨vl9, hvl9⟩ : ∃ l, (vl7.set ia X1).set ib X2 = l := ⟨_, rfl⟩
            obtain ⟨L9, hL9⟩ : ∃ l, (LL.set ia X1.1).set ib X2.1 = l := ⟨_, rfl⟩
            have hM9 : Mid w.heap.size T sb bl nb fb w K6 (L9) (listsK n k ++ [P0] ++ [P2] ++ [P3] ++ [P4]) (k + 1) (fnF (nmL n) (fun i => ((2 * symAt n i : Nat) : Int)) (k + 1)) (gnF (nmL n) (k + 1)) nf2 ff2 gf2 (.slice (some ⟨g, 0, none⟩) m lc) vl9 ls7 W42 := by rw [← hL9, ← hvl9, hX1, hX2]; exact HME.out
            have hx91 : vl9[ia]? = some X1 := by
              rw [← hvl9, List.getElem?_set_ne HAB2.out.symm, List.getElem?_set_self (List.getElem?_eq_some_iff.1 HXA.out).1]
            have hx92 : vl9[ib]? = some X2 := by
              rw [← hvl9, List.getElem?_set_self (by rw [List.length_set]; exact (List.getElem?_eq_some_iff.1 HXB.out).1)]
            have hl91 : L9[ia]? = some X1.1 := by rw [← hM9.eq, List.getElem?_map, hx91]; rfl
            have hl92 : L9[ib]? = some X2.1 := by rw [← hM9.eq, List.getElem?_map, hx92]; rfl
            have hk1 : X1.1.at_ = clsAt k := by rw [hX1]; show xa.1.at_ = _; rw [HXA1.out]; rfl
            have hk2 : X2.1.at_ = metaAt n k := by rw [hX2]; show xb.1.at_ = _; rw [HXB1.out]; rfl
            have hpe9 : Chain 2 L9 ∧ endL 2 L9 ≤ 1000 := by
              obtain ⟨c1, c2⟩ := chain_set (o' := X1.1) HPG.out.1 (by rw [hX1, ← HXA1.out]; rfl) HPE.out.1
              obtain ⟨c3, c4⟩ := chain_set (o' := X2.1) (L := LL.set ia X1.1) (i := ib) (o := metaZ n k) (by rw [List.getElem?_set_ne HAB2.out]; exact HPG.out.2) (by rw [hX2, ← HXB1.out]; rfl) c1
              rw [← hL9]
              exact ⟨c3, by rw [c4, c2]; exact HPE.out.2⟩
            have hMa := hM9.bel (below_drewN W42 1)
            have hAt1 := Lib.hid (hMa.at_ (wd := C1) rfl hpe9.1 (by omega) hl91 (by rw [hk1]; exact HC1.out))
            have HMA := Lib.hid hMa
            have HPE9 := Lib.hid hpe9
            have HX1 := Lib.hid hX1
            have HX2 := Lib.hid hX2
            have HL9 := Lib.hid hL9
            have HVL9 := Lib.hid hvl9
            have HX91 := Lib.hid hx91
            have HX92 := Lib.hid hx92
            have HL92 := Lib.hid hl92
            have HK2' := Lib.hid hk2
            have hSXa := HSX.out _ hMa.st
            clear hX1 hX2 hvl9 hL9 hM9 hx91 hx92 hl91 hl92 hk1 hk2 hpe9 hMa HME
            go_wp2_with fail
            refine wp_region_noPanic ?_
            refine Hd.start (fun v => v.cell? ⟨bt, 0, none⟩ = some (.pointer (some ⟨T, 0, none⟩)) ∧ v.cell? ⟨bc, 0, none⟩ = some (.map (some cm)) ∧ (Instr.lookup MT (.map (some cm)) (.string ⟨s.toArray⟩) false).run Try.prog v = .ok (.int .u64 (C1 : Int)) v ∧ (Instr.lookup MT (.map (some mm)) (.string ⟨s.toArray⟩) false).run Try.prog v = .ok (.int .u64 (D1 : Int)) v) (by kernel_rfl) hSXa (fun hH0 => ?_)
            refine Hd.tk 0 4 hH0 ?_
            refine Hd.tk 1 3 hH0 ?_
            refine Hd.tk 2 3 hH0 ?_
            refine Hd.tk 3 4 hH0 ?_
            refine Hd.tk 5 9 hH0 ?_
            refine Hd.tk 6 8 hH0 ?_
            refine Hd.tk 7 8 hH0 ?_
            refine Hd.tk 8 9 hH0 ?_
            refine Hd.tk 10 12 hH0 ?_
            refine Hd.tk 11 12 hH0 ?_
            refine Hd.tk 12 18 hH0 ?_
            refine Hd.tk 13 14 hH0 ?_
            refine Hd.on 4 (fun K hK => ?_)
            go_simp
            refine hAt1.out.mono ?_; rintro e u1 ⟨rfl, hb1⟩
            have hMb := HMA.out.bel hb1
            have hAt2 := Lib.hid (hMb.at_ (wd := D1) rfl HPE9.out.1 (by have := HPE9.out.2; omega) HL92.out (by rw [HK2'.out]; exact HD1.out))
            have HMB := Lib.hid hMb
            clear hb1 hMb hSXa
            refine hK.out _ _ (HSX.out _ HMB.out.st) (fun hH1 => ?_)
            clear hK K
            try simp only [Act.put, List.setIfInBounds_toArray, List.set_cons_zero, List.set_cons_succ]
            refine Hd.on 9 (fun K hK => ?_)
            go_simp
            refine hAt2.out.mono ?_; rintro e u2 ⟨rfl, hb2⟩
            have HMC := Lib.hid (HMB.out.bel hb2)
            clear hb2
            refine hK.out _ _ (HSX.out _ HMC.out.st) (fun hH2 => ?_)
            clear hK K
            try simp only [Act.put, List.setIfInBounds_toArray, List.set_cons_zero, List.set_cons_succ]
            refine Hd.on 14 (fun K hK => ?_)
            go_simp
            have hR7 := HROOT.out u2 (HG5.out _ (HG6.out _ HMC.out.st).2).2 7 (by omega) (by omega)
            rw [show 7 - 5 = 2 from rfl, HC2.out] at hR7
            refine hR7.mono ?_; rintro e u3 ⟨rfl, hb3⟩
            have hMc := HMC.out.bel hb3
            have hca := (hMc.tw.cells HX91.out).1.2.1
            have hfz := (hMc.tw.cells HX91.out).2 (ia * 8 + 1)
            have hMd := hMc.setK HOK6.out HX91.out D1
            have hxb' : (vl9.set ia ({ X1.1 with hd := { X1.1.hd with cls := D1 } }, X1.2))[ib]? = some X2 := by rw [List.getElem?_set_ne HAB2.out]; exact HX92.out
            have hcb' := (hMd.tw.cells hxb').1.2.1
            have hfz' := (hMd.tw.cells hxb').2 (ib * 8 + 1)
            have hMe := hMd.setK HOK6.out hxb' C2
            have HME := Lib.hid hMe
            have hSXc := HSX.out _ hMc.st
            have hSXd := HSX.out _ hMd.st
            clear hR7 hb3 hMc hMd hMe hxb' HMA HMB
            refine hK.out _ _ hSXc (fun hH3 => ?_)
            clear hK K
            try simp only [Act.put, List.setIfInBounds_toArray, List.set_cons_zero, List.set_cons_succ]
            refine Hd.tk 15 16 hH3 ?_
            refine Hd.tk 16 17 hH3 ?_
            refine Hd.tk 17 18 hH3 ?_
            refine Hd.on 18 (fun K hK => ?_)
            go_simp
            refine hK.out _ _ hSXd (fun hH4 => ?_)
            clear hK K
            try simp only [Act.put, List.setIfInBounds_toArray, List.set_cons_zero, List.set_cons_succ]
            refine Hd.tk 19 20 hH4 ?_
            refine Hd.tk 20 21 hH4 ?_
            refine Hd.tk 21 22 hH4 ?_
            refine Hd.la 22 (fun K hK => ?_)
            go_simp
            refine hK.out _ _ ?_
            clear hK K
            try simp only [Act.put, List.setIfInBounds_toArray, List.set_cons_zero, List.set_cons_succ]
            simp only [NoPanic]
            clear hH0 hH1 hH2 hH3 hH4 hSXc hSXd hca hfz hcb' hfz'
            obtain ⟨W43, hW43⟩ : ∃ W, (u3.setCell ⟨g, ia * 8 + 1, none⟩ (.int .u64 (D1 : Int))).setCell ⟨g, ib * 8 + 1, none⟩ (.int .u64 (C2 : Int)) = W := ⟨_, rfl⟩
            rw [hW43] at HME
            rw [hW43]
            clear hW43
            have HFINAL : Hid (FmtOk n sup flds (k + 1) ff2 ∧ Mid w.heap.size T sb bl nb fb w K4 (stE n sup flds (k + 1)) (listsK n (k + 1)) (k + 1) (fnF (nmL n) (fun i => ((2 * symAt n i : Nat) : Int)) (k + 1)) (gnF (nmL n) (k + 1)) nf2 ff2 gf2 (.slice (some ⟨g, 0, none⟩) m lc) ((vl9.set ia ({ X1.1 with hd := { X1.1.hd with cls := D1 } }, X1.2)).set ib ({ X2.1 with hd := { X2.1.hd with cls := C2 } }, X2.2)) ls7 W43) := Lib.hid (by
              refine ⟨HFO.out, ?_⟩
              have h := HME.out
              rw [HK6.out, HK5.out] at h
              have h := h.tl.tl
              have hA2 : ({ X1.1 with hd := { X1.1.hd with cls := D1 } } : Ob) = clsO n sup flds k := by
                rw [HX1.out]
                show ({ xa.1 with words := [SU, P0, WF, P1, P2], hd := { xa.1.hd with cls := D1 } } : Ob) = _
                rw [HXA1.out, ← HD1.out, ← HSU.out, ← HP0.out, ← HWF.out, ← HFV1.out, ← HP1.out, ← HP2.out]
                rfl
              have hB2 : ({ X2.1 with hd := { X2.1.hd with cls := C2 } } : Ob) = metaO n sup k := by
                rw [HX2.out]
                show ({ xb.1 with words := [AB, P3, 41, C1, P4], hd := { xb.1.hd with cls := C2 } } : Ob) = _
                rw [HXB1.out, ← HC2.out, ← HAB.out, ← HP3.out, ← HC1.out, ← HP4.out]
                rfl
              have hLS : listsK n k ++ [P0] ++ [P2] ++ [P3] ++ [P4] = listsK n (k + 1) := by
                rw [listsK_succ, HP0.out, HP2.out, HP3.out, HP4.out]
                simp
              have hLL : (L9.set ia { X1.1 with hd := { X1.1.hd with cls := D1 } }).set ib { X2.1 with hd := { X2.1.hd with cls := C2 } } = stE n sup flds (k + 1) := by
                rw [hA2, hB2, ← HL9.out, two_sets _ HAB2.out, ← HLL2.out, ← HIA.out, ← HIB.out]
                exact pz_step HKN.out
              rw [hLS, hLL] at h
              exact h)
            clear HME
            go_wp2_with fail
            go_roundg (N - (k + 1))
            case measure => omega
            case rel => exact ⟨k + 1, by omega, by simp, _, _, _, nf2, ff2, gf2, by have := HNF2.out; omega, HFINAL⟩
        · obtain rfl : k = N := by omega
          have e1 : decide ((k : Int) < (k : Int)) = false := decide_eq_false (by omega)
          have e3 : decide (k < k) = false := decide_eq_false (by omega)
          have HE := Lib.hid hI.out.2
          clear hI
          go_wp2_with fail
          go_meet
          exact ⟨_, _, _, _, _, _, HE⟩
     case rest =>
      rename World => X0
      obtain ⟨lv, vl, lsv, nf, ff, gf, hI⟩ := hcut
      have HEC := Lib.hid (end_c n hn6 sup flds)
      have eN : stE n sup flds N = stE n sup flds (NN n) ++ [] := by rw [hNM.out, List.append_nil]
      have hM0 := hI.out.bel (below_drewN X0 1)
      rw [eN] at hM0
      have hl0 : (stE n sup flds (NN n)).length ≤ 1000 := by
        have := stE_len (n := n) (sup := sup) (flds := flds) (NN n) (by unfold NN; omega) hn6 0
        rw [List.length_append] at this
        omega
      obtain ⟨SC, hSC⟩ : ∃ v, 2 * schedAt n = v := ⟨_, rfl⟩
      obtain ⟨LK, hLK⟩ : ∃ v, 2 * lackAt n = v := ⟨_, rfl⟩
      have HSC := Lib.hid hSC
      have HLK2 := Lib.hid hLK
      have hsch : schedAt n ≤ 1000 ∧ lackAt n ≤ 1000 := by
        have := (base_le n hn6).1 (NN n) (Nat.le_refl _)
        unfold lackAt schedAt; omega
      have HPT : Hid (∀ v, Sta w.heap.size w v K4 → Blk PTT bt #[.pointer (some ⟨T, 0, none⟩)] v) := Lib.hid (fun v h => (HG0.out v (HG3.out v (HG4.out v h).2).2.2.2).2.2.1)
      have hCl := hM0.list (a := schedAt n) HOK.out (HPT.out _ hM0.st) (stF_at (n := n) (sup := sup) (flds := flds) (j := 0) (o := listO (schedAt n) []) (L := []) hn6 rfl rfl) (by rw [List.append_nil]; exact ok_stE hn6 (NN n)) (show schedAt n ≤ 100000 by omega) (by rw [List.append_nil]; omega) (by rw [listsK_len]; omega)
      have HM0 := Lib.hid hM0
      have HCL := Lib.hid hCl
      have HL0 := Lib.hid hl0
      have HSCH := Lib.hid hsch
      have HBT := Lib.hid (show ∀ v, Sta w.heap.size w v K4 → v.cell? ⟨bt, 0, none⟩ = some (.pointer (some ⟨T, 0, none⟩)) from fun v h => (HBOX.out v h).1)
      clear hM0 hCl hI eN hl0 hSC hLK hsch
      go_wp2_with fail
      refine wp_region_noPanic ?_
      refine Hd.start (fun v => v.cell? ⟨bt, 0, none⟩ = some (.pointer (some ⟨T, 0, none⟩))) (by kernel_rfl) (HBT.out _ HM0.out.st) (fun hH0 => ?_)
      refine Hd.tk 0 1 hH0 ?_
      refine Hd.tk 2 3 hH0 ?_
      refine Hd.on 1 (fun K hK => ?_)
      go_simp
      refine HCL.out.mono ?_; rintro e v1 ⟨lv1, vl1, ls1, rfl, hV1⟩
      rw [HSC.out]
      have e1 : stE n sup flds (NN n) ++ [] ++ [rw4 (listO (schedAt n) [])] = stE n sup flds (NN n) ++ [rw4 (listO (schedAt n) [])] := by rw [List.append_nil]
      rw [e1] at hV1
      have hCs := hV1.sym HOK.out (a := lackAt n) (s := lacksL) (fnF_none N _ fun j hj => (nm_facts n hn6 j (by rw [← hNM.out]; exact hj)).2.1) (by omega) (stF_at (n := n) (sup := sup) (flds := flds) (j := 1) (o := symO (lackAt n) lacksL) (L := [rw4 (listO (schedAt n) [])]) hn6 rfl rfl) (fun o ho => HEC.out.ok o (by
        unfold l0
        rcases List.mem_append.1 ho with ho | ho
        · exact List.mem_append_left _ ho
        · exact List.mem_append_right _ (by rw [List.mem_singleton] at ho; rw [ho]; exact List.mem_cons_self ..))) (by have := HSCH.out; omega) (by have := HL0.out; rw [List.length_append]; simp only [List.length_cons, List.length_nil]; omega) (by decide)
      have HCS := Lib.hid hCs
      have hSV := HBT.out _ hV1.st
      clear e1 hV1 hCs HM0 HCL
      refine hK.out _ _ hSV (fun hH1 => ?_)
      clear hK K
      try simp only [Act.put, List.setIfInBounds_toArray, List.set_cons_zero, List.set_cons_succ]
      refine Hd.on 3 (fun K hK => ?_)
      go_simp
      refine HCS.out.mono ?_; rintro e v2 ⟨lv2, vl2, rfl, hV2⟩
      have e2 : stE n sup flds (NN n) ++ [rw4 (listO (schedAt n) [])] ++ [rw4 (symO (lackAt n) lacksL)] = l0 n sup flds := by unfold l0; rw [List.append_assoc]; rfl
      rw [e2] at hV2
      obtain ⟨K7, hK7⟩ : ∃ l : List Th, l = thM UT .u64 sb (N + 1) (fun x => if x = lacksL then ((2 * lackAt n : Nat) : Int) else fnF (nmL n) (fun i => ((2 * symAt n i : Nat) : Int)) N x) (fun x => if x = lacksL then true else gnF (nmL n) N x) :: thB BxU bl #[ls1] :: thR w.heap.size UT (listsK n N ++ [2 * schedAt n]).length ls1 ((listsK n N ++ [2 * schedAt n]).map uV) :: K4 := ⟨_, rfl⟩
      have hT7 : Tn w.heap.size T sb w K7 (l0 n sup flds) lv2 vl2 v2 := by
        rw [hK7]
        exact ⟨((hV2.st.cons (t := thR w.heap.size UT (listsK n N ++ [2 * schedAt n]).length ls1 ((listsK n N ++ [2 * schedAt n]).map uV)) hV2.ls).cons (t := thB BxU bl #[ls1]) hV2.bl).cons (t := thM UT .u64 sb (N + 1) (fun x => if x = lacksL then ((2 * lackAt n : Nat) : Int) else fnF (nmL n) (fun i => ((2 * symAt n i : Nat) : Int)) N x) (fun x => if x = lacksL then true else gnF (nmL n) N x)) hV2.sy, hV2.tw, hV2.eq⟩
      have HG7 : Hid (∀ v, Sta w.heap.size w v K7 → SymM sb (N + 1) (fun x => if x = lacksL then ((2 * lackAt n : Nat) : Int) else fnF (nmL n) (fun i => ((2 * symAt n i : Nat) : Int)) N x) (fun x => if x = lacksL then true else gnF (nmL n) N x) v ∧ Blk BxU bl #[ls1] v ∧ OwnU w.heap.size v ls1 (listsK n N ++ [2 * schedAt n]) ∧ Sta w.heap.size w v K4) := Lib.hid (fun v h => by rw [hK7] at h; exact ⟨h.p0, h.tl.p0, h.tl.tl.p0, h.tl.tl.tl⟩)
      have HN7 : Hid (noT TT K7 = true ∧ noT OT K7 = true) := Lib.hid (by rw [hK7]; exact ⟨by simp only [noT, List.all_cons]; exact HOK.out.tt, by simp only [noT, List.all_cons]; exact HOK.out.ot⟩)
      have HT7 := Lib.hid hT7
      have HAP := Lib.hid hV2.ap
      have HNB := Lib.hid hV2.nb
      have hSV2 := HBT.out _ hV2.st
      rw [HLK2.out]
      clear hT7 hV2 e2 hK7 HCS
      refine hK.out _ _ hSV2 (fun hH2 => ?_)
      clear hK K
      try simp only [Act.put, List.setIfInBounds_toArray, List.set_cons_zero, List.set_cons_succ]
      refine Hd.tk 4 5 hH2 ?_
      refine Hd.la 5 (fun K hK => ?_)
      go_simp
      refine hK.out _ _ ?_
      clear hK K
      try simp only [Act.put, List.setIfInBounds_toArray, List.set_cons_zero, List.set_cons_succ]
      simp only [NoPanic]
      clear hH0 hH1 hH2 hSV hSV2
      have hg7 := HG7.out _ HT7.out.st
      have hcb := (HBOX.out _ hg7.2.2.2).2.1
      have hcls := (HG3.out _ (HG4.out _ hg7.2.2.2).2).2.1
      have hSrt := Lib.hid (sorted_any cm N _ _ (globT n) v2 hcls (glob_rise n hn6) (fun x hx => by rw [hNM.out]; exact gnF_glob n hn6 x) (by unfold globT; rw [List.length_map, order_len]; unfold NN; omega) (fun x hx => by
        unfold globT at hx
        obtain ⟨i, hi, rfl⟩ := List.mem_map.1 hx
        have := nm_len hn6 i
        unfold nmL at this
        omega))
      clear hg7 hcls
      go_wp2_with fail
      refine hSrt.out.mono ?_; rintro e v5 ⟨sv, rfl, hOS, hb5⟩
      have hgl : (globT n).length = N := by unfold globT; rw [List.length_map, order_len, hNM.out]
      obtain ⟨gs5, c5, rfl⟩ := own_form hOS (by rw [hgl]; have := hNM.out; unfold NN at this; omega)
      have HSC5 : Hid (gs5 < v5.heap.size ∧ ∀ j s, (globT n)[j]? = some s → v5.cell? ⟨gs5, j, none⟩ = some (.string ⟨s.toArray⟩)) := Lib.hid ⟨(World.ownsRow.lt hOS gs5 rfl).2, fun j s h => strs_at hOS j s h⟩
      have HT5 := Lib.hid (HT7.out.bel hb5)
      rw [hgl]
      clear hOS hb5 hgl hcb
      go_upto_block 8 with fail
      go_cut [27, 30] from 264 to 277 (fun s27 s30 wx => Hid (Below v5.heap.size v5 wx ∧ OwnU v5.heap.size wx s27 (globW n)))
      case first =>
       as_aux_lemma =>
       go_wp2_with fail
       go_loopw [264, 27, 30] (fun y gv _ wr => ∃ (k : Nat), y = .int .i64 (k : Int) ∧ k ≤ N ∧ Hid (Below v5.heap.size v5 wr ∧ OwnU v5.heap.size wr gv ((globW n).take (2 * k)))) (fun y _ _ _ => N - (intOf y).toNat)
       case atStart => exact ⟨0, rfl, Nat.zero_le _, Lib.hid ⟨Below.refl _ _, World.ownsRow_nil _ _ _ _⟩⟩
       case round =>
        obtain ⟨k, rfl, hk, hI⟩ := hrel
        have hk22 : (k : Int) ≤ 22 := by omega
        have hN22' : (N : Int) ≤ 22 := by omega
        by_cases hkn : k < N
        · have e1 : decide ((k : Int) < (N : Int)) = true := decide_eq_true (by omega)
          have e2 : (k : Int) < (N : Int) := by omega
          have e3 : decide (k < N) = true := decide_eq_true hkn
          obtain ⟨i, hi, hgi, htk⟩ := glob_get (n := n) (k := k) (by rw [← hNM.out]; exact hkn)
          have hiN : i < N := by rw [hNM.out]; exact order_lt n hn6 i (List.mem_of_getElem? hi)
          obtain ⟨s, hs⟩ : ∃ s, nmL n i = s := ⟨_, rfl⟩
          have hsl : s.length ≤ 15 := by rw [← hs]; exact nm_len hn6 i
          have cn : wr.cell? ⟨gs5, k, none⟩ = some (.string ⟨s.toArray⟩) := by
            rw [← hs, World.cell?_of_block (hI.out.1.block gs5 HSC5.out.1)]
            exact HSC5.out.2 k _ hgi
          obtain ⟨E1, hE1⟩ : ∃ v, 2 * symAt n i = v := ⟨_, rfl⟩
          obtain ⟨E2, hE2⟩ : ∃ v, 2 * clsAt i = v := ⟨_, rfl⟩
          have HTr := Lib.hid (HT5.out.bel (hI.out.1.trans ((below_drewN wr 1).mono hI.out.1.size)))
          have hsym := sym_old w.heap.size T sb 4 (N + 1) vl2 lv2 (fun x => if x = lacksL then ((2 * lackAt n : Nat) : Int) else fnF (nmL n) (fun i => ((2 * symAt n i : Nat) : Int)) N x) (fun x => if x = lacksL then true else gnF (nmL n) N x) s E1 wr.drew HTr.out.tw (HG7.out _ HTr.out.st).1 (by rw [← hs, ← hE1]; exact sy_val hn6 hNM.out (fun i => ((2 * symAt n i : Nat) : Int)) _ i hiN) (by rw [← hE1]; unfold symAt; omega) (by omega)
          have HSYM2 := Lib.hid hsym
          have HSX : Hid (∀ v, Below v5.heap.size v5 v → v.cell? ⟨bt, 0, none⟩ = some (.pointer (some ⟨T, 0, none⟩)) ∧ v.cell? ⟨bc, 0, none⟩ = some (.map (some cm)) ∧ (Instr.lookup MT (.map (some cm)) (.string ⟨s.toArray⟩) false).run Try.prog v = .ok (.int .u64 (E2 : Int)) v) := Lib.hid (fun v h => by
            have h4 := (HG7.out v (HT5.out.bel h).st).2.2.2
            have := (HLK.out v h4 i hiN).1
            rw [hs, hE2] at this
            exact ⟨(HBOX.out v h4).1, (HBOX.out v h4).2.1, this⟩)
          obtain ⟨ga, gc, rfl⟩ := hI.out.2.form
          obtain ⟨gl, hgl⟩ : ∃ m, ((globW n).take (2 * k)).length = m := ⟨_, rfl⟩
          obtain ⟨W50, hal50⟩ : ∃ W, wr.drew.alloc (.cells #[.int .u64 (E1 : Int), .int .u64 (E2 : Int)] UT) = W := ⟨_, rfl⟩
          have b50 : Below wr.heap.size wr W50 := by rw [← hal50]; exact (below_drewN wr 1).trans ((alloc_bel wr.drew _).mono (Nat.le_refl _))
          have q50 : Blk UT wr.heap.size (rowV uV [E1, E2]) W50 := by rw [← hal50]; exact Blk.made wr.drew
          have hB50 := hI.out.1.trans (b50.mono hI.out.1.size)
          obtain ⟨v6, w6, hrun, hO6, hg6⟩ := app_u (xv := .slice (some ⟨wr.heap.size, 0, none⟩) 2 2) (hI.out.2.bel b50) (Rd.blk q50 (by unfold maxLen; simp)) (by rw [List.length_take, globW_len]; simp only [List.length_cons, List.length_nil]; omega) hB50.size
          rw [hgl] at hrun ⊢
          obtain ⟨a6, c6, rfl⟩ := hO6.form
          obtain ⟨l6, hl6⟩ : ∃ m, ((globW n).take (2 * k) ++ [E1, E2]).length = m := ⟨_, rfl⟩
          rw [hl6] at hrun hO6
          have hB6 := hB50.grown hg6 hB50.size (fun j hj => (World.ownsRow.lt (hI.out.2.bel b50) j hj).1)
          have HE6 : Hid (Below v5.heap.size v5 w6 ∧ OwnU v5.heap.size w6 (.slice a6 l6 c6) ((globW n).take (2 * (k + 1)))) := Lib.hid ⟨hB6, by rw [← htk, hE1, hE2]; exact hO6⟩
          have HRun := Lib.hid hrun
          have hS50 := HSX.out _ hB50
          have hS6 := HSX.out _ hB6
          have hSr := HSX.out wr.drew (hI.out.1.trans ((below_drewN wr 1).mono hI.out.1.size))
          clear hi hgi htk hs hsl hE1 hE2 hsym hgl b50 q50 hB50 hrun hO6 hg6 hl6 hB6 hI
          go_wp2_with fail
          refine wp_region_noPanic ?_
          refine Hd.start (fun v => v.cell? ⟨bt, 0, none⟩ = some (.pointer (some ⟨T, 0, none⟩)) ∧ v.cell? ⟨bc, 0, none⟩ = some (.map (some cm)) ∧ (Instr.lookup MT (.map (some cm)) (.string ⟨s.toArray⟩) false).run Try.prog v = .ok (.int .u64 (E2 : Int)) v) (by kernel_rfl) hSr (fun hH0 => ?_)
          refine Hd.tk 0 8 hH0 ?_
          refine Hd.tk 1 3 hH0 ?_
          refine Hd.tk 2 3 hH0 ?_
          refine Hd.tk 4 6 hH0 ?_
          refine Hd.tk 5 6 hH0 ?_
          refine Hd.tk 6 7 hH0 ?_
          refine Hd.on 3 (fun K hK => ?_)
          go_simp
          refine HSYM2.out.mono ?_; rintro e w3 ⟨rfl, rfl⟩
          refine hK.out _ _ hSr (fun hH1 => ?_)
          clear hK K
          try simp only [Act.put, List.setIfInBounds_toArray, List.set_cons_zero, List.set_cons_succ]
          refine Hd.on 7 (fun K hK => ?_)
          go_simp
          refine hK.out _ _ hS50 (fun hH2 => ?_)
          clear hK K
          try simp only [Act.put, List.setIfInBounds_toArray, List.set_cons_zero, List.set_cons_succ]
          refine Hd.on 8 (fun K hK => ?_)
          refine step_app rfl _ _ _ rfl _ _ _ _ rfl rfl HRun.out ?_
          refine hK.out _ _ hS6 (fun hH3 => ?_)
          clear hK K
          try simp only [Act.put, List.setIfInBounds_toArray, List.set_cons_zero, List.set_cons_succ]
          refine Hd.la 9 (fun K hK => ?_)
          go_simp
          refine hK.out _ _ ?_
          clear hK K
          try simp only [Act.put, List.setIfInBounds_toArray, List.set_cons_zero, List.set_cons_succ]
          simp only [NoPanic]
          go_wp2_with fail
          exact ⟨⟨k + 1, by simp, by omega, HE6⟩, by simp only [intOf]; omega⟩
        · obtain rfl : k = N := by omega
          have e1 : decide ((k : Int) < (k : Int)) = false := decide_eq_false (by omega)
          have e3 : decide (k < k) = false := decide_eq_false (by omega)
          have HE : Hid (Below v5.heap.size v5 wr ∧ OwnU v5.heap.size wr u27 (globW n)) := Lib.hid (by
            have h := hI.out
            rw [List.take_of_length_le (by rw [globW_len, hNM.out]; exact Nat.le_refl _)] at h
            exact h)
          clear hI
          go_wp2_with fail
          go_meet
          exact HE
      case rest =>
       rename World => X5
       obtain ⟨ga, gc, rfl⟩ := hcut.out.2.form
       obtain ⟨gl, hgl⟩ : ∃ m, (globW n).length = m := ⟨_, rfl⟩
       obtain ⟨K8, hK8⟩ : ∃ l : List Th, l = thR w.heap.size UT (globW n).length (.slice ga (globW n).length gc) ((globW n).map uV) :: K7 := ⟨_, rfl⟩
       have hge5 : w.heap.size ≤ v5.heap.size := HT5.out.sz
       have hT8 : Tn w.heap.size T sb w K8 (l0 n sup flds) lv2 vl2 X5 := by
         rw [hK8]
         exact (HT5.out.bel hcut.out.1).cons (t := thR w.heap.size UT (globW n).length (.slice ga (globW n).length gc) ((globW n).map uV)) (own_mono hcut.out.2 hge5)
       have HG8 : Hid (∀ v, Sta w.heap.size w v K8 → OwnU w.heap.size v (.slice ga gl gc) (globW n) ∧ Sta w.heap.size w v K7) := Lib.hid (fun v h => by
         rw [hK8] at h
         refine ⟨?_, h.tl⟩
         have := h.p0
         rw [hgl] at this
         rw [← hgl]
         rw [← hgl] at this
         exact this)
       have HN8 : Hid (noT TT K8 = true ∧ noT OT K8 = true) := Lib.hid (by rw [hK8]; exact ⟨by simp only [noT, List.all_cons]; exact HN7.out.1, by simp only [noT, List.all_cons]; exact HN7.out.2⟩)
       have HK8 := Lib.hid hK8
       have HT8 := Lib.hid hT8
       have HGLS : Hid (∀ b, (Value.slice ga gl gc).ownBlock = some b → ∀ b', ls1.ownBlock = some b' → b ≠ b') := Lib.hid (fun b hb b' hb' e => by
         have h1 := (World.ownsRow.lt hcut.out.2 b (by rw [hgl]; exact hb)).1
         have h2 := (World.ownsRow.lt (HG7.out _ HT5.out.st).2.2.1 b' hb').2
         omega)
       have HLSG0 : Hid (∀ b, ls1.ownBlock = some b → b < v5.heap.size) := Lib.hid (fun b hb => (World.ownsRow.lt (HG7.out _ HT5.out.st).2.2.1 b hb).2)
       rw [hgl]
       clear hK8 hT8 hge5 hcut hgl
       have hg7 := HG7.out _ (HG8.out _ HT8.out.st).2
       have hcb := (HBOX.out _ hg7.2.2.2).1
       have hct3 : X5.cell? ⟨T, 3, none⟩ = some (.map (some sb)) := HT8.out.tw.blk.c 3 _ rfl
       have hSrt := Lib.hid (sorted_any sb (N + 1) _ _ (symT n) X5 hg7.1 (syms_rise n hn6) (fun x hx => sy_iff hn6 hNM.out x) (by rw [symT_len]; unfold NN; omega) (fun x hx => by
         obtain ⟨k, hk⟩ := List.getElem?_of_mem hx
         obtain ⟨s, y, h1, -, h2, -⟩ := sym_get hn6 hNM.out (show k < N + 1 by have := (List.getElem?_eq_some_iff.1 hk).1; rw [symT_len, ← hNM.out] at this; exact this)
         rw [hk] at h1
         cases h1
         omega))
       clear hg7
       go_wp2_with fail
       refine hSrt.out.mono ?_; rintro e v6 ⟨sv, rfl, hOS, hb6⟩
       have hgl : (symT n).length = N + 1 := by rw [symT_len, hNM.out]
       obtain ⟨gs6, c6, rfl⟩ := own_form hOS (by rw [hgl]; omega)
       obtain ⟨K9, hK9⟩ : ∃ l : List Th, l = thR w.heap.size ST1 (symT n).length (.slice (some ⟨gs6, 0, none⟩) (symT n).length c6) ((symT n).map strV) :: K8 := ⟨_, rfl⟩
       have hT9 : Tn w.heap.size T sb w K9 (l0 n sup flds) lv2 vl2 v6 := by
         rw [hK9]
         exact (HT8.out.bel hb6).cons (t := thR w.heap.size ST1 (symT n).length (.slice (some ⟨gs6, 0, none⟩) (symT n).length c6) ((symT n).map strV)) (own_mono hOS HT8.out.sz)
       have HG9 : Hid (∀ v, Sta w.heap.size w v K9 → (∀ j s, (symT n)[j]? = some s → v.cell? ⟨gs6, j, none⟩ = some (.string ⟨s.toArray⟩)) ∧ Sta w.heap.size w v K8) := Lib.hid (fun v h => by
         rw [hK9] at h
         exact ⟨fun j s hj => strs_at h.p0 j s hj, h.tl⟩)
       have HN9 : Hid (noT TT K9 = true ∧ noT OT K9 = true) := Lib.hid (by rw [hK9]; exact ⟨by simp only [noT, List.all_cons]; exact HN8.out.1, by simp only [noT, List.all_cons]; exact HN8.out.2⟩)
       have HK9 := Lib.hid hK9
       have HT9 := Lib.hid hT9
       obtain ⟨G6, hG6⟩ : ∃ b, v6.heap.size = b := ⟨_, rfl⟩
       have hGle : w.heap.size ≤ G6 := by rw [← hG6]; exact hT9.sz
       have hI0 : ∃ lv vl, Hid (Tn w.heap.size T sb w K9 (setC symC ((symsW n).take 0) (l0 n sup flds)) lv vl v6 ∧ Bd vl K9 G6 ∧ LApt vl ls1 ∧ OwnU G6 v6 (.slice none 0 0) ((symsW n).take 0) ∧ G6 ≤ v6.heap.size) := by
         refine ⟨lv2, vl2, Lib.hid ⟨?_, ?_, HAP.out, World.ownsRow_nil _ _ _ _, by rw [hG6]; exact Nat.le_refl _⟩⟩
         · rw [List.take_zero, setC_nil]; exact hT9
         · rw [← hG6]; exact hT9.bd
       have HGL := Lib.hid hGle
       have HLSG : Hid (∀ b, ls1.ownBlock = some b → b < G6) := Lib.hid (fun b hb => by
         rw [← hG6]
         exact (World.ownsRow.lt (HG7.out _ (HG8.out _ (HT8.out.bel hb6).st).2).2.2.1 b hb).2)
       rw [hgl]
       clear hOS hb6 hgl hcb hct3 hK9 hT9 hG6 hGle
       go_upto_block 10 with fail
       go_cut [28, 32] from 284 to 310 (fun s28 s32 wx => ∃ lv vl, Hid (Tn w.heap.size T sb w K8 (setC symC (symsW n) (l0 n sup flds)) lv vl wx ∧ Bd vl K8 G6 ∧ LApt vl ls1 ∧ OwnU G6 wx s28 (symsW n) ∧ G6 ≤ wx.heap.size))
       case first =>
        as_aux_lemma =>
        go_wp2_with fail
        go_loopw [284, 28, 32] (fun y gv _ wr => ∃ (k : Nat), y = .int .i64 (k : Int) ∧ k ≤ N + 1 ∧ ∃ lv vl, Hid (Tn w.heap.size T sb w K9 (setC symC ((symsW n).take k) (l0 n sup flds)) lv vl wr ∧ Bd vl K9 G6 ∧ LApt vl ls1 ∧ OwnU G6 wr gv ((symsW n).take k) ∧ G6 ≤ wr.heap.size)) (fun y _ _ _ => N + 1 - (intOf y).toNat)
        case atStart => exact ⟨0, rfl, Nat.zero_le _, hI0⟩
        case round =>
         obtain ⟨k, rfl, hk, lv, vl, hI⟩ := hrel
         have hk22 : (k : Int) ≤ 23 := by omega
         have hN22' : (N : Int) ≤ 22 := by omega
         by_cases hkn : k < N + 1
         · have e1 : decide ((k : Int) < (N : Int) + 1) = true := decide_eq_true (by omega)
           have e2 : (k : Int) < (N : Int) + 1 := by omega
           have e3 : decide (k < N + 1) = true := decide_eq_true hkn
           obtain ⟨s, E, hs1, hs2, hsl, hfs, hE0, hE1⟩ := sym_get hn6 hNM.out hkn
           dsimp only at hfs
           have cn := (HG9.out _ hI.out.1.st).1 k s hs1
           have htk : (symsW n).take (k + 1) = (symsW n).take k ++ [E] := by
             obtain ⟨h1, h2⟩ := List.getElem?_eq_some_iff.1 hs2
             rw [List.take_succ_eq_append_getElem h1, h2]
           obtain ⟨g, m, lc, kk, x, hlv, hx, hcls⟩ := hI.out.1.cls HEC.out.c0 (by rw [HEC.out.e0]; have := (base_le n hn6).1 (NN n) (Nat.le_refl _); unfold globAt schedAt; omega) (HEC.out.sw E (List.mem_of_getElem? hs2)) HN9.out.1 HN9.out.2
           have HSY : Hid (∀ v lv vl, Tn w.heap.size T sb w K9 (setC symC ((symsW n).take k) (l0 n sup flds)) lv vl v → v.cell? ⟨bt, 0, none⟩ = some (.pointer (some ⟨T, 0, none⟩)) ∧ v.cell? ⟨T, 3, none⟩ = some (.map (some sb)) ∧ (Instr.lookup MT (.map (some sb)) (.string ⟨s.toArray⟩) false).run Try.prog v = .ok (.int .u64 (E : Int)) v) := Lib.hid (fun v lv vl h => by
             have h7 := HG7.out v (HG8.out v (HG9.out v h.st).2).2
             have hl := MapS.look (mt := MT) h7.1 (by kernel_rfl) (by kernel_rfl) (by kernel_rfl) (zero_u64 v) s (by unfold maxLen; omega)
             rw [hfs] at hl
             exact ⟨(HBOX.out v h7.2.2.2).1, h.tw.blk.c 3 _ rfl, hl⟩)
           obtain ⟨c1, c2, c3⟩ := HSY.out _ _ _ hI.out.1
           obtain ⟨ga2, gc2, rfl⟩ := hI.out.2.2.2.1.form
           obtain ⟨gl2, hgl2⟩ : ∃ m, ((symsW n).take k).length = m := ⟨_, rfl⟩
           have hglk : gl2 ≤ 100 := by rw [← hgl2, List.length_take, symsW_len, ← hNM.out]; omega
           obtain ⟨W55, hal55⟩ : ∃ W, wr.alloc (.cells #[.int .u64 (E : Int)] UT) = W := ⟨_, rfl⟩
           have b55 : Below wr.heap.size wr W55 := by rw [← hal55]; exact alloc_bel wr _
           have q55 : Blk UT wr.heap.size (rowV uV [E]) W55 := by rw [← hal55]; exact Blk.made wr
           have ho55 := hI.out.2.2.2.1.bel b55
           have hsz55 : G6 ≤ W55.heap.size := Nat.le_trans hI.out.2.2.2.2 b55.size
           obtain ⟨v7, w7, hrun, hO7, hg7⟩ := app_u (xv := .slice (some ⟨wr.heap.size, 0, none⟩) 1 1) ho55 (Rd.blk q55 (by unfold maxLen; simp)) (by rw [hgl2]; simp only [List.length_cons, List.length_nil]; omega) hsz55
           have hT7' := (hI.out.1.bel b55).grownG hI.out.2.1 HGL.out hg7 ho55
           have hS55 := HSY.out _ _ _ (hI.out.1.bel b55)
           rw [hgl2] at hrun hg7
           obtain ⟨a7, c7, rfl⟩ := hO7.form
           obtain ⟨l7, hl7⟩ : ∃ m, ((symsW n).take k ++ [E]).length = m := ⟨_, rfl⟩
           rw [hl7] at hrun hO7
           rw [← htk] at hO7
           have hT7d := hT7'.bel (below_drewN w7 1)
           have hsz7 : G6 ≤ w7.heap.size := Nat.le_trans hsz55 hg7.size
           have HT7d := Lib.hid hT7d
           have HO7 := Lib.hid (hO7.bel (below_drewN w7 1))
           have HSZ7 := Lib.hid hsz7
           have HRun := Lib.hid hrun
           have HI := Lib.hid hI.out
           have HCLS := Lib.hid hcls
           have HX := Lib.hid hx
           have HTK := Lib.hid htk
           have hS7 := HSY.out _ _ _ hT7d
           rw [hgl2]
           obtain ⟨c4, c5, c6'⟩ := hS55
           subst hlv
           clear hs1 hs2 hsl hfs hE0 hE1 htk hgl2 b55 q55 ho55 hsz55 hrun hO7 hg7 hT7' hl7 hT7d hsz7 hI hcls hx
           go_wp2_with (at_builtin; refine wpList_app rfl _ _ _ rfl _ _ _ _ rfl rfl HRun.out ?_)
           refine wp_region_noPanic ?_
           refine Hd.start (fun v => v.cell? ⟨bt, 0, none⟩ = some (.pointer (some ⟨T, 0, none⟩)) ∧ v.cell? ⟨T, 3, none⟩ = some (.map (some sb)) ∧ (Instr.lookup MT (.map (some sb)) (.string ⟨s.toArray⟩) false).run Try.prog v = .ok (.int .u64 (E : Int)) v) (by kernel_rfl) hS7 (fun hH0 => ?_)
           refine Hd.tk 0 7 hH0 ?_
           refine Hd.tk 1 2 hH0 ?_
           refine Hd.tk 2 3 hH0 ?_
           refine Hd.tk 3 4 hH0 ?_
           refine Hd.tk 4 6 hH0 ?_
           refine Hd.tk 5 6 hH0 ?_
           refine Hd.tk 6 7 hH0 ?_
           refine Hd.tk 8 9 hH0 ?_
           refine Hd.on 7 (fun K hK => ?_)
           go_simp
           refine ((HCLS.out _ HT7d.out).1).mono ?_; rintro e w8 ⟨rfl, hb8⟩
           have hT8' := HT7d.out.bel hb8
           have HT8' := Lib.hid hT8'
           have HB8 := Lib.hid hb8
           clear hT8' hb8
           refine hK.out _ _ (HSY.out _ _ _ HT8'.out) (fun hH1 => ?_)
           clear hK K
           try simp only [Act.put, List.setIfInBounds_toArray, List.set_cons_zero, List.set_cons_succ]
           refine Hd.on 9 (fun K hK => ?_)
           go_simp
           have hR13 := HROOT.out w8 (HG7.out _ (HG8.out _ (HG9.out _ HT8'.out.st).2).2).2.2.2 13 (by omega) (by omega)
           rw [show ((2 * clsAt (13 - 5) : Nat) : Int) = (symC : Int) from rfl] at hR13
           refine hR13.mono ?_; rintro e w9 ⟨rfl, hb9⟩
           obtain ⟨-, q1, q2, q3, q4⟩ := HCLS.out _ (HT8'.out.bel hb9)
           have hO9 := (HO7.out.bel HB8.out).bel hb9
           have HE9 : Hid (Tn w.heap.size T sb w K9 (setC symC ((symsW n).take (k + 1)) (l0 n sup flds)) (.slice (some ⟨g, 0, none⟩) m lc) (vl.set kk ({ x.1 with hd := { x.1.hd with cls := symC } }, x.2)) (w9.setCell ⟨g, kk * 8 + 1, none⟩ (.int .u64 (symC : Int))) ∧ Bd (vl.set kk ({ x.1 with hd := { x.1.hd with cls := symC } }, x.2)) K9 G6 ∧ LApt (vl.set kk ({ x.1 with hd := { x.1.hd with cls := symC } }, x.2)) ls1 ∧ OwnU G6 (w9.setCell ⟨g, kk * 8 + 1, none⟩ (.int .u64 (symC : Int))) (.slice a7 l7 c7) ((symsW n).take (k + 1)) ∧ G6 ≤ (w9.setCell ⟨g, kk * 8 + 1, none⟩ (.int .u64 (symC : Int))).heap.size) := Lib.hid (by
             refine ⟨by rw [HTK.out]; exact q4, HI.out.2.1.set HX.out, HI.out.2.2.1.set HX.out, q3.own hO9 tyne.2.1 tyne.2.2.1 (fun _ _ h => h), ?_⟩
             have h1 := HSZ7.out
             have h2 := HB8.out.size
             have h3 := hb9.size
             have h4 := q3.size
             have h5 : (w7.drewN 1).heap.size = w7.heap.size := rfl
             omega)
           have hS9 := HSY.out _ _ _ (HT8'.out.bel hb9)
           clear hR13 hb9 q3 q4 hO9
           refine hK.out _ _ hS9 (fun hH2 => ?_)
           clear hK K
           try simp only [Act.put, List.setIfInBounds_toArray, List.set_cons_zero, List.set_cons_succ]
           refine Hd.tk 10 11 hH2 ?_
           refine Hd.tk 11 12 hH2 ?_
           refine Hd.tk 12 13 hH2 ?_
           refine Hd.la 13 (fun K hK => ?_)
           go_simp
           refine hK.out _ _ ?_
           clear hK K
           try simp only [Act.put, List.setIfInBounds_toArray, List.set_cons_zero, List.set_cons_succ]
           simp only [NoPanic]
           go_wp2_with fail
           exact ⟨⟨k + 1, by simp, by omega, _, _, HE9⟩, by simp only [intOf]; omega⟩
         · obtain rfl : k = N + 1 := by omega
           have e1 : decide (((N + 1 : Nat) : Int) < (N : Int) + 1) = false := decide_eq_false (by omega)
           have e2 : decide ((N : Int) + 1 < (N : Int) + 1) = false := decide_eq_false (by omega)
           have e3 : decide (N + 1 < N + 1) = false := decide_eq_false (by omega)
           have HE : Hid (Tn w.heap.size T sb w K8 (setC symC (symsW n) (l0 n sup flds)) lv vl wr ∧ Bd vl K8 G6 ∧ LApt vl ls1 ∧ OwnU G6 wr u28 (symsW n) ∧ G6 ≤ wr.heap.size) := Lib.hid (by
             have h := hI.out
             rw [List.take_of_length_le (by rw [symsW_len, hNM.out]; exact Nat.le_refl _)] at h
             rw [HK9.out] at h
             exact ⟨h.1.tl, ⟨h.2.1.1, fun t ht => h.2.1.2 t (List.mem_cons_of_mem _ ht)⟩, h.2.2⟩)
           clear hI
           go_wp2_with fail
           go_meet
           exact ⟨_, _, HE⟩
       case rest =>
        rename World => X6
        obtain ⟨lv, vl, hI⟩ := hcut
        have hX6 : w.heap.size ≤ X6.heap.size := hI.out.1.sz
        obtain ⟨ya, yc, rfl⟩ := hI.out.2.2.2.1.form
        obtain ⟨yl, hyl⟩ : ∃ m, (symsW n).length = m := ⟨_, rfl⟩
        have hyl2 : yl = N + 1 := by rw [← hyl, symsW_len, hNM.out]
        have HYL := Lib.hid hyl2
        have hSy := own_mono hI.out.2.2.2.1 HGL.out
        have hSyI : OwnU w.heap.size X6 (.slice ya yl yc) (symsW n) := by
          have h := hSy
          rw [hyl] at h
          rw [← hyl] at h ⊢
          exact h
        obtain ⟨G8, hG8⟩ : ∃ b, X6.heap.size = b := ⟨_, rfl⟩
        have hBd8 : Bd vl K8 G8 := by rw [← hG8]; exact hI.out.1.bd
        have hgb8 : ∀ b, (Value.slice ga gl gc).ownBlock = some b → b < G8 := fun b hb => by rw [← hG8]; exact (World.ownsRow.lt (HG8.out _ hI.out.1.st).1 b hb).2
        have hyb8 : ∀ b, (Value.slice ya yl yc).ownBlock = some b → b < G8 := fun b hb => by rw [← hG8]; exact (World.ownsRow.lt hSyI b hb).2
        have hlsG : ∀ b, ls1.ownBlock = some b → b < G8 := fun b hb => by rw [← hG8]; exact (World.ownsRow.lt (HG7.out _ (HG8.out _ hI.out.1.st).2).2.2.1 b hb).2
        have hgls : ∀ b, (Value.slice ga gl gc).ownBlock = some b → ls1.ownBlock ≠ some b := fun b hb e => HGLS.out b hb b e rfl
        have hyls : ∀ b, (Value.slice ya yl yc).ownBlock = some b → ls1.ownBlock ≠ some b := fun b hb e => by
          have h1 := (World.ownsRow.lt hI.out.2.2.2.1 b (by rw [hyl]; exact hb)).1
          have h2 := HLSG.out b e
          omega
        -- words: of none, then nils
        obtain ⟨W57, hal57⟩ : ∃ W, X6.alloc (.cells #[] UT) = W := ⟨_, rfl⟩
        have b57 : Below X6.heap.size X6 W57 := by rw [← hal57]; exact alloc_bel X6 _
        have o57 : OwnU G8 W57 (.slice (some ⟨G8, 0, none⟩) 0 0) [] := by rw [← hal57, ← hG8]; exact World.ownsRow_made (e := UT) (size := 1) X6 #[] 0 (Nat.le_refl _) (by unfold maxLen; omega) rfl
        have hNilR : Rd (fun _ => True) uV W57 (.slice (some ⟨nb, 0, none⟩) 3 3) [E0, E1, E2] := (Rd.own (f := uV) (l := [E0, E1, E2]) (HG4.out _ (HG7.out _ (HG8.out _ (hI.out.1.bel b57).st).2).2.2.2).1).mono (fun _ _ _ => trivial)
        have hsz57 : G8 ≤ W57.heap.size := by rw [← hG8]; exact b57.size
        obtain ⟨v58, w58, hrun58, hO58, hg58⟩ := app_u o57 hNilR (by simp) hsz57
        have hT58 := (hI.out.1.bel b57).grownG hBd8 (by rw [← hG8]; exact hX6) hg58 o57
        have hSy58 : OwnU w.heap.size w58 (.slice ya yl yc) (symsW n) := (hSyI.bel b57).kept hg58 (by
          cases hb : (Value.slice ya yl yc).ownBlock with
          | none => exact .inl rfl
          | some b => exact .inr (fun e => by have := hyb8 b hb; have e' : b = G8 := by cases e; rfl
                                              omega))
        obtain ⟨a58, c58, rfl⟩ := hO58.form
        have hsz58 : G8 ≤ w58.heap.size := Nat.le_trans hsz57 hg58.size
        have HRun58 := Lib.hid hrun58
        have HT58 := Lib.hid hT58
        have HI58 : Hid (Bd vl K8 G8 ∧ LApt vl ls1 ∧ OwnU G8 w58 (.slice a58 3 c58) [E0, E1, E2] ∧ OwnU w.heap.size w58 (.slice ya yl yc) (symsW n) ∧ G8 ≤ w58.heap.size ∧ w.heap.size ≤ G8) := Lib.hid ⟨hBd8, hI.out.2.2.1, hO58, hSy58, hsz58, by rw [← hG8]; exact hX6⟩
        have HGB8 : Hid ((∀ b, (Value.slice ga gl gc).ownBlock = some b → b < G8) ∧ (∀ b, (Value.slice ya yl yc).ownBlock = some b → b < G8) ∧ (∀ b, ls1.ownBlock = some b → b < G8) ∧ (∀ b, (Value.slice ga gl gc).ownBlock = some b → ls1.ownBlock ≠ some b) ∧ (∀ b, (Value.slice ya yl yc).ownBlock = some b → ls1.ownBlock ≠ some b)) := Lib.hid ⟨hgb8, hyb8, hlsG, hgls, hyls⟩
        rw [hyl]
        clear hX6 hyl hyl2 hSy hSyI hBd8 hgb8 hyb8 hlsG hgls hyls b57 o57 hNilR hsz57 hrun58 hO58 hg58 hT58 hSy58 hsz58 hI
        go_wp2_with (at_builtin; refine wpList_app rfl _ _ _ rfl _ _ _ _ rfl rfl HRun58.out ?_)
        clear hal57
        obtain ⟨GA, hGA⟩ : ∃ v, 2 * globAt n = v := ⟨_, rfl⟩
        obtain ⟨SA, hSA⟩ : ∃ v, 2 * symsAt n = v := ⟨_, rfl⟩
        have HGA := Lib.hid hGA
        have HSA := Lib.hid hSA
        have hlen : (setC symC (symsW n) (l0 n sup flds)).length ≤ 998 := by
          have := HEC.out.ln
          unfold l3 l2 at this
          rw [List.length_set, List.length_append] at this
          simp only [List.length_cons, List.length_nil] at this
          omega
        have hch := setC_chain (c := symC) (P := symsW n) HEC.out.c0
        have hpl : globAt n ≤ 1000 ∧ symsAt n ≤ 1000 := by
          have := (base_le n hn6).1 (NN n) (Nat.le_refl _)
          have h22 : NN n ≤ 22 := by unfold NN; omega
          unfold symsAt globAt schedAt; omega
        have hT0 := HT58.out.bel (below_drewN w58 1)
        have hAd1 := hT0.add HN8.out.1 HN8.out.2 ⟨hch.1, hch.2.trans HEC.out.e0⟩ (ok_setC (by decide) (by decide) HEC.out.ok) (by omega) (by omega) (HG8.out _ hT0.st).1 (by rw [globW_len]; unfold NN; omega)
        have HAD1 := Lib.hid hAd1
        have hO0 := HI58.out.2.2.1.bel (below_drewN w58 1)
        have hY0 := HI58.out.2.2.2.1.bel (below_drewN w58 1)
        have HO0 := Lib.hid hO0
        have HY0 := Lib.hid hY0
        have HLEN := Lib.hid hlen
        have HPL := Lib.hid hpl
        have HB7 := Lib.hid (show ∀ v, Sta w.heap.size w v K8 → v.cell? ⟨bt, 0, none⟩ = some (.pointer (some ⟨T, 0, none⟩)) from fun v h => (HBOX.out v (HG7.out v (HG8.out v h).2).2.2.2).1)
        have hSt := HB7.out _ hT0.st
        clear hGA hSA hlen hch hpl hAd1 hO0 hY0 hT0
        refine wp_region_noPanic ?_
        refine Hd.start (fun v => v.cell? ⟨bt, 0, none⟩ = some (.pointer (some ⟨T, 0, none⟩))) (by kernel_rfl) hSt (fun hH0 => ?_)
        refine Hd.tk 0 8 hH0 ?_
        refine Hd.tk 1 3 hH0 ?_
        refine Hd.tk 2 3 hH0 ?_
        refine Hd.tk 4 6 hH0 ?_
        refine Hd.tk 5 6 hH0 ?_
        refine Hd.on 3 (fun K hK => ?_)
        go_simp
        refine HAD1.out.mono ?_; rintro e v1 ⟨lv1, vl1, rfl, hT1, hB1, hA1, hf1⟩
        rw [HGA.out]
        have hch2 : Chain 2 (setC symC (symsW n) (l0 n sup flds) ++ [rw4 (listO (globAt n) (globW n))]) ∧ endL 2 (setC symC (symsW n) (l0 n sup flds) ++ [rw4 (listO (globAt n) (globW n))]) = symsAt n := by
          have hk : (setC symC (symsW n) (l0 n sup flds) ++ [rw4 (listO (globAt n) (globW n))]).map keyO = (l0 n sup flds ++ [rw4 (listO (globAt n) (globW n))]).map keyO := by rw [List.map_append, List.map_append, key_setC]
          exact ⟨chain_keys hk HEC.out.c1, (end_keys hk).trans HEC.out.e1⟩
        have hY1 : OwnU w.heap.size v1 (.slice ya yl yc) (symsW n) := hf1.own HY0.out tyne.2.1 tyne.2.2.1 (fun _ _ h => h)
        have hO1 : OwnU G8 v1 (.slice a58 3 c58) [E0, E1, E2] := hf1.own HO0.out tyne.2.1 tyne.2.2.1 (fun _ _ h => h)
        have hAd2 := hT1.add HN8.out.1 HN8.out.2 hch2 (fun o ho => by
          rcases List.mem_append.1 ho with ho | ho
          · exact ok_setC (by decide) (by decide) HEC.out.ok o ho
          · obtain rfl := List.mem_singleton.1 ho
            exact ok_hdL (c := 4) (k := 1) (s := (globW n).length) (by omega) (by omega) (by rw [globW_len]; unfold NN; omega) (by omega)) (by have := HPL.out; omega) (by have := HLEN.out; rw [List.length_append]; simp only [List.length_cons, List.length_nil]; omega) hY1 (by rw [symsW_len]; unfold NN; omega)
        have HAD2 := Lib.hid hAd2
        have HO1' := Lib.hid hO1
        have hBd1 := hB1 G8 HI58.out.1 HGB8.out.1
        have hAp1 := hA1 ls1 HI58.out.2.1 HGB8.out.2.2.2.1
        have HBA1 := Lib.hid (And.intro hBd1 hAp1)
        have HSZ1 := Lib.hid (Nat.le_trans HI58.out.2.2.2.2.1 (show (w58.drewN 1).heap.size ≤ v1.heap.size from hf1.size))
        have hSt1 := HB7.out _ hT1.st
        clear hT1 hB1 hA1 hf1 hch2 hY1 hO1 hAd2 hBd1 hAp1
        refine hK.out _ _ hSt1 (fun hH1 => ?_)
        clear hK K
        try simp only [Act.put, List.setIfInBounds_toArray, List.set_cons_zero, List.set_cons_succ]
        refine Hd.on 6 (fun K hK => ?_)
        go_simp
        refine HAD2.out.mono ?_; rintro e v2' ⟨lv3, vl3, rfl, hT3, hB3, hA3, hf3⟩
        rw [HSA.out]
        rw [List.append_assoc, show [rw4 (listO (globAt n) (globW n))] ++ [rw4 (listO (symsAt n) (symsW n))] = [rw4 (listO (globAt n) (globW n)), rw4 (listO (symsAt n) (symsW n))] from rfl] at hT3
        have hT3 : Tn w.heap.size T sb w K8 (l2 n sup flds) lv3 vl3 v2' := hT3
        have hO3 : OwnU G8 v2' (.slice a58 3 c58) [E0, E1, E2] := hf3.own HO1'.out tyne.2.1 tyne.2.2.1 (fun _ _ h => h)
        have hsz3 : G8 ≤ v2'.heap.size := Nat.le_trans HSZ1.out hf3.size
        obtain ⟨W59, hal59⟩ : ∃ W, v2'.alloc (.cells #[.int .u64 (GA : Int), .int .u64 (SA : Int)] UT) = W := ⟨_, rfl⟩
        have b59 : Below v2'.heap.size v2' W59 := by rw [← hal59]; exact alloc_bel v2' _
        have q59 : Blk UT v2'.heap.size (rowV uV [GA, SA]) W59 := by rw [← hal59]; exact Blk.made v2'
        have hsz59 := Nat.le_trans hsz3 b59.size
        obtain ⟨v60, w60, hrun60, hO60, hg60⟩ := app_u (xv := .slice (some ⟨v2'.heap.size, 0, none⟩) 2 2) (hO3.bel b59) (Rd.blk q59 (by unfold maxLen; simp)) (by simp) hsz59
        have hBd3 := hB3 G8 HBA1.out.1 HGB8.out.2.1
        have hAp3 := hA3 ls1 HBA1.out.2 HGB8.out.2.2.2.2
        have hT60 := (hT3.bel b59).grownG hBd3 HI58.out.2.2.2.2.2 hg60 (hO3.bel b59)
        obtain ⟨a60, c60, rfl⟩ := hO60.form
        have HRun60 := Lib.hid hrun60
        have HT60 := Lib.hid hT60
        have HBA3 := Lib.hid (And.intro hBd3 hAp3)
        have HO60 : Hid (OwnU G8 w60 (.slice a60 5 c60) [E0, E1, E2, GA, SA] ∧ G8 ≤ w60.heap.size) := Lib.hid ⟨hO60, Nat.le_trans hsz59 hg60.size⟩
        have hSt3 := HB7.out _ hT3.st
        have hSt59 := HB7.out _ (hT3.bel b59).st
        have hSt60 := HB7.out _ hT60.st
        clear hT3 hB3 hA3 hf3 hO3 hsz3 b59 q59 hsz59 hrun60 hO60 hg60 hBd3 hAp3 hT60
        refine hK.out _ _ hSt3 (fun hH2 => ?_)
        clear hK K
        try simp only [Act.put, List.setIfInBounds_toArray, List.set_cons_zero, List.set_cons_succ]
        refine Hd.on 7 (fun K hK => ?_)
        go_simp
        refine hK.out _ _ hSt59 (fun hH3 => ?_)
        clear hK K
        try simp only [Act.put, List.setIfInBounds_toArray, List.set_cons_zero, List.set_cons_succ]
        refine Hd.on 8 (fun K hK => ?_)
        refine step_app rfl _ _ _ rfl _ _ _ _ rfl rfl HRun60.out ?_
        refine hK.out _ _ hSt60 (fun hH4 => ?_)
        clear hK K
        try simp only [Act.put, List.setIfInBounds_toArray, List.set_cons_zero, List.set_cons_succ]
        refine Hd.la 9 (fun K hK => ?_)
        go_simp
        refine hK.out _ _ ?_
        clear hK K
        try simp only [Act.put, List.setIfInBounds_toArray, List.set_cons_zero, List.set_cons_succ]
        simp only [NoPanic]
        clear hH0 hH1 hH2 hH3 hH4 hSt hSt1 hSt3 hSt59 hSt60 hal59
        go_upto_block 12 with fail
        go_cut [33, 34] from 323 to 332 (fun s33 s34 wx => Hid (Tn w.heap.size T sb w K8 (l2 n sup flds) lv3 vl3 wx ∧ OwnU G8 wx s33 ([E0, E1, E2, GA, SA] ++ (List.range 16).map (fun i => 2 * clsAt i)) ∧ G8 ≤ wx.heap.size))
        case first =>
         as_aux_lemma =>
         go_wp2_with fail
         go_loopw [33, 34] (fun gv y wr => ∃ i : Nat, y = .int .i64 (i : Int) ∧ 5 ≤ i ∧ i ≤ 21 ∧ Hid (Tn w.heap.size T sb w K8 (l2 n sup flds) lv3 vl3 wr ∧ OwnU G8 wr gv ([E0, E1, E2, GA, SA] ++ (List.range (i - 5)).map (fun i => 2 * clsAt i)) ∧ G8 ≤ wr.heap.size)) (fun _ y _ => 21 - (intOf y).toNat)
         case atStart => exact ⟨5, rfl, by omega, by omega, Lib.hid ⟨HT60.out, HO60.out.1, HO60.out.2⟩⟩
         case round =>
          obtain ⟨i, rfl, hi5, hi21, hI⟩ := hrel
          have hi30 : (i : Int) ≤ 21 := by omega
          by_cases hi20 : i ≤ 20
          · have e1 : decide ((i : Int) ≤ 20) = true := decide_eq_true (by omega)
            have e2 : (i : Int) ≤ 20 := by omega
            have e3 : decide (i ≤ 20) = true := decide_eq_true hi20
            have hR := HROOT.out wr (HG7.out _ (HG8.out _ hI.out.1.st).2).2.2.2 i hi5 hi20
            obtain ⟨E, hE⟩ : ∃ E, 2 * clsAt (i - 5) = E := ⟨_, rfl⟩
            rw [hE] at hR
            have HR := Lib.hid hR
            have HE := Lib.hid hE
            have HI := Lib.hid hI.out
            obtain ⟨ra, rc, rfl⟩ := hI.out.2.1.form
            obtain ⟨rl, hrl⟩ : ∃ m, ([E0, E1, E2, GA, SA] ++ (List.range (i - 5)).map (fun i => 2 * clsAt i)).length = m := ⟨_, rfl⟩
            have HRL := Lib.hid hrl
            rw [hrl]
            clear hR hE hI hrl
            go_wp2_with fail
            refine HR.out.mono ?_; rintro e w2 ⟨rfl, hb2⟩
            have hO2 := HI.out.2.1.bel hb2
            have hT2 := HI.out.1.bel hb2
            have hsz2 := Nat.le_trans HI.out.2.2 hb2.size
            obtain ⟨W63, hal63⟩ : ∃ W, w2.alloc (.cells #[.int .u64 (E : Int)] UT) = W := ⟨_, rfl⟩
            have b63 : Below w2.heap.size w2 W63 := by rw [← hal63]; exact alloc_bel w2 _
            have q63 : Blk UT w2.heap.size (rowV uV [E]) W63 := by rw [← hal63]; exact Blk.made w2
            have hsz63 := Nat.le_trans hsz2 b63.size
            have hlr : ([E0, E1, E2, GA, SA] ++ (List.range (i - 5)).map (fun i => 2 * clsAt i)).length ≤ 100 := by simp; omega
            obtain ⟨v64, w64, hrun64, hO64, hg64⟩ := app_u (xv := .slice (some ⟨w2.heap.size, 0, none⟩) 1 1) (hO2.bel b63) (Rd.blk q63 (by unfold maxLen; simp)) (by simp only [List.length_cons, List.length_nil] at hlr ⊢; omega) hsz63
            have hT64 := (hT2.bel b63).grownG HBA3.out.1 HI58.out.2.2.2.2.2 hg64 (hO2.bel b63)
            have hsz64 := Nat.le_trans hsz63 hg64.size
            rw [HRL.out] at hrun64
            obtain ⟨a64, c64, rfl⟩ := hO64.form
            obtain ⟨l64, hl64⟩ : ∃ m, ([E0, E1, E2, GA, SA] ++ (List.range (i - 5)).map (fun i => 2 * clsAt i) ++ [E]).length = m := ⟨_, rfl⟩
            rw [hl64] at hrun64 hO64
            have hO65 : OwnU G8 w64 (.slice a64 l64 c64) ([E0, E1, E2, GA, SA] ++ (List.range (i + 1 - 5)).map (fun i => 2 * clsAt i)) := by
              rw [show i + 1 - 5 = (i - 5) + 1 by omega, List.range_succ, List.map_append, ← List.append_assoc]
              show OwnU G8 w64 _ ([E0, E1, E2, GA, SA] ++ (List.range (i - 5)).map (fun i => 2 * clsAt i) ++ [2 * clsAt (i - 5)])
              rw [HE.out]
              exact hO64
            have HE64 := Lib.hid (And.intro hT64 (And.intro hO65 hsz64))
            have HRun := Lib.hid hrun64
            clear hb2 hO2 hT2 hsz2 b63 q63 hsz63 hlr hrun64 hO64 hg64 hT64 hsz64 hl64 hO65
            go_wp2_with (at_builtin; refine wpList_app rfl _ _ _ rfl _ _ _ _ rfl rfl HRun.out ?_)
            exact ⟨⟨i + 1, by simp, by omega, by omega, HE64⟩, by simp only [intOf]; omega⟩
          · obtain rfl : i = 21 := by omega
            have HE := hI
            clear hI
            go_wp2_with fail
            go_meet
            exact HE
        case rest =>
         rename World => X7
         obtain ⟨ra, rc, rfl⟩ := hcut.out.2.1.form
         obtain ⟨rl, hrl⟩ : ∃ m, ([E0, E1, E2, GA, SA] ++ (List.range 16).map (fun i => 2 * clsAt i)).length = m := ⟨_, rfl⟩
         have hrl2 : rl ≤ 100 := by rw [← hrl]; simp
         have HG47 : Hid (∀ v, Sta w.heap.size w v K8 → Sta w.heap.size w v K4 ∧ OwnU w.heap.size v ls1 (listsK n N ++ [2 * schedAt n]) ∧ Blk BxU bl #[ls1] v) := Lib.hid (fun v h => ⟨(HG7.out v (HG8.out v h).2).2.2.2, (HG7.out v (HG8.out v h).2).2.2.1, (HG7.out v (HG8.out v h).2).2.1⟩)
         have cnb := (HNIL.out _ (HG47.out _ hcut.out.1.st).1).1
         obtain ⟨W64, hal64⟩ : ∃ W, X7.alloc (.cells #[.int .u64 (SC : Int), .int .u64 (LK : Int), .int .u64 (E0 : Int)] UT) = W := ⟨_, rfl⟩
         have b64 : Below X7.heap.size X7 W64 := by rw [← hal64]; exact alloc_bel X7 _
         have q64 : Blk UT X7.heap.size (rowV uV [SC, LK, E0]) W64 := by rw [← hal64]; exact Blk.made X7
         have hsz64 := Nat.le_trans hcut.out.2.2 b64.size
         obtain ⟨v65, w65, hrun65, hO65, hg65⟩ := app_u (xv := .slice (some ⟨X7.heap.size, 0, none⟩) 3 3) (hcut.out.2.1.bel b64) (Rd.blk q64 (by unfold maxLen; simp)) (by rw [hrl]; simp only [List.length_cons, List.length_nil]; omega) hsz64
         have hT65 := (hcut.out.1.bel b64).grownG HBA3.out.1 HI58.out.2.2.2.2.2 hg65 (hcut.out.2.1.bel b64)
         rw [hrl] at hrun65
         have hrw : [E0, E1, E2, GA, SA] ++ (List.range 16).map (fun i => 2 * clsAt i) ++ [SC, LK, E0] = rootW n := by rw [← HE0.out, ← HE1.out, ← HE2.out, ← HGA.out, ← HSA.out, ← HSC.out, ← HLK2.out]; exact rootW_app n
         rw [hrw] at hO65
         obtain ⟨wa, wcp, rfl⟩ := own_form hO65 (by show 0 < 24; omega)
         have hr24 : (rootW n).length = 24 := rfl
         rw [hr24] at hrun65
         have hO65' : OwnU w.heap.size w65 (.slice (some ⟨wa, 0, none⟩) 24 wcp) (rootW n) := by
           have h := own_mono hO65 HI58.out.2.2.2.2.2
           exact h
         have hwaG : G8 ≤ wa := (World.ownsRow.lt hO65 wa rfl).1
         -- the root's words
         have hTd := hT65.bel (below_drewN w65 1)
         obtain ⟨x0, hx0, hx01⟩ := vl_at hTd.eq HEC.out.rt
         obtain ⟨g, lc, hlv⟩ := hTd.tw.g hx0
         obtain ⟨m3, hm3⟩ : ∃ m, vl3.length = m := ⟨_, rfl⟩
         rw [hm3] at hlv
         subst hlv
         have hAt0 : Calls Try.prog 44 #[.pointer (some ⟨T, 0, none⟩), .int .u64 4] w65.drew (Back (.pointer (some ⟨g, 0, none⟩)) w65.drew) := hTd.at_ (k := 0) (wd := 4) rfl (l2_chain HEC.out).1 (by have := (l2_chain HEC.out).2; omega) HEC.out.rt rfl
         have HAT0 := Lib.hid hAt0
         have HTD := Lib.hid hTd
         have HO65 := Lib.hid (hO65'.bel (below_drewN w65 1))
         have HX0 := Lib.hid hx0
         have HX01 := Lib.hid hx01
         have HRun65 := Lib.hid hrun65
         have HWAG := Lib.hid hwaG
         have HSW : Hid (∀ v lv vl, Tn w.heap.size T sb w K8 (l2 n sup flds) lv vl v → v.cell? ⟨bt, 0, none⟩ = some (.pointer (some ⟨T, 0, none⟩)) ∧ v.cell? ⟨T, 4, none⟩ = some (.int .u64 4)) := Lib.hid (fun v lv vl h => ⟨(HBOX.out v (HG47.out v h.st).1).1, h.tw.blk.c 4 _ rfl⟩)
         have hSd := HSW.out _ _ _ hTd
         rw [hrl]
         clear hcut hrl hrl2 b64 q64 hsz64 hrun65 hO65 hg65 hT65 hrw hr24 hO65' hwaG hTd hx0 hx01 hm3 hAt0
         go_wp2_with (at_builtin; refine wpList_app rfl _ _ _ rfl _ _ _ _ rfl rfl HRun65.out ?_)
         clear hal64 cnb
         refine wp_region_noPanic ?_
         refine Hd.start (fun v => v.cell? ⟨bt, 0, none⟩ = some (.pointer (some ⟨T, 0, none⟩)) ∧ v.cell? ⟨T, 4, none⟩ = some (.int .u64 4)) (by kernel_rfl) hSd (fun hH0 => ?_)
         refine Hd.tk 0 5 hH0 ?_
         refine Hd.tk 1 2 hH0 ?_
         refine Hd.tk 2 3 hH0 ?_
         refine Hd.tk 3 4 hH0 ?_
         refine Hd.tk 4 5 hH0 ?_
         refine Hd.tk 6 9 hH0 ?_
         refine Hd.on 5 (fun K hK => ?_)
         go_simp
         refine HAT0.out.mono ?_; rintro e v9 ⟨rfl, hb9⟩
         have hTe := HTD.out.bel hb9
         have hOe := HO65.out.bel hb9
         have hce : v9.cell? ⟨g, 6, none⟩ = some x0.2.1 := (hTe.tw.cells HX0.out).1.2.2.2.2.2.2.1
         have hfe : v9.frozen? ⟨g, 6, none⟩ = false := (hTe.tw.cells HX0.out).2 6
         have hTf : Tn w.heap.size T sb w K8 ((l2 n sup flds).set 0 { x0.1 with words := rootW n }) (.slice (some ⟨g, 0, none⟩) m3 lc) (vl3.set 0 ({ x0.1 with words := rootW n }, Value.slice (some ⟨wa, 0, none⟩) 24 wcp, x0.2.2)) (v9.setCell ⟨g, 6, none⟩ (.slice (some ⟨wa, 0, none⟩) 24 wcp)) := hTe.setW HN8.out.1 HN8.out.2 HX0.out hOe
         have HTF := Lib.hid hTf
         have hSe := HSW.out _ _ _ hTe
         clear hb9 hTe hOe hTf
         refine hK.out _ _ hSe (fun hH1 => ?_)
         clear hK K
         try simp only [Act.put, List.setIfInBounds_toArray, List.set_cons_zero, List.set_cons_succ]
         refine Hd.tk 7 8 hH1 ?_
         refine Hd.tk 8 9 hH1 ?_
         refine Hd.la 9 (fun K hK => ?_)
         go_simp
         refine hK.out _ _ ?_
         clear hK K
         try simp only [Act.put, List.setIfInBounds_toArray, List.set_cons_zero, List.set_cons_succ]
         simp only [NoPanic]
         clear hH0 hH1 hSd hSe hce hfe
         obtain ⟨W66, hW66⟩ : ∃ W, v9.setCell ⟨g, 6, none⟩ (.slice (some ⟨wa, 0, none⟩) 24 wcp) = W := ⟨_, rfl⟩
         rw [hW66] at HTF
         rw [hW66]
         clear hW66
         obtain ⟨vl4, hvl4⟩ : ∃ l, vl3.set 0 ({ x0.1 with words := rootW n }, Value.slice (some ⟨wa, 0, none⟩) 24 wcp, x0.2.2) = l := ⟨_, rfl⟩
         have hl3 : (l2 n sup flds).set 0 { x0.1 with words := rootW n } = l3 n sup flds := by rw [HX01.out]; rfl
         rw [hvl4, hl3] at HTF
         have hap4 : LApt vl4 ls1 := fun y hy b hb => by
           rw [← hvl4] at hy
           rcases List.mem_or_eq_of_mem_set hy with hy | rfl
           · exact HBA3.out.2 y hy b hb
           · intro e
             have h1 := HGB8.out.2.2.1 b e
             have hb : some wa = some b := hb
             cases hb
             have := HWAG.out
             omega
         have hx4 : vl4[0]? = some ({ x0.1 with words := rootW n }, Value.slice (some ⟨wa, 0, none⟩) 24 wcp, x0.2.2) := by rw [← hvl4, List.getElem?_set_self (List.getElem?_eq_some_iff.1 HX0.out).1]
         have hTg := HTF.out
         have hK4 := HG47.out _ hTg.st
         have hls := hK4.2.1
         obtain ⟨lsa, lsc, hlse⟩ := hls.form
         obtain ⟨lsl, hlsl⟩ : ∃ m, (listsK n N ++ [2 * schedAt n]).length = m := ⟨_, rfl⟩
         rw [hlsl] at hlse
         subst hlse
         have hlslN : lsl ≤ 100 := by rw [← hlsl, List.length_append, listsK_len]; simp; omega
         have hT4 : Tn w.heap.size T sb w K4 (l3 n sup flds) (.slice (some ⟨g, 0, none⟩) m3 lc) vl4 W66 := ⟨hK4.1, hTg.tw, hTg.eq⟩
         have HNBx := HNB.out
         have HSX4 : Hid (∀ v lv, Tn w.heap.size T sb w K4 (l3 n sup flds) lv vl4 v → Blk BxU bl #[.slice lsa lsl lsc] v → v.cell? ⟨bl, 0, none⟩ = some (.slice lsa lsl lsc) ∧ v.cell? ⟨bt, 0, none⟩ = some (.pointer (some ⟨T, 0, none⟩)) ∧ v.cell? ⟨T, 4, none⟩ = some (.int .u64 4) ∧ v.cell? ⟨wa, 3, none⟩ = some (.int .u64 (GA : Int)) ∧ v.cell? ⟨wa, 4, none⟩ = some (.int .u64 (SA : Int))) := Lib.hid (fun v lv h hb => by
           have hr := (h.tw.rds _ (List.mem_of_getElem? hx4)).1
           have h3 := World.ownsRow.cells hr (g := wa) rfl 3 (uV (2 * globAt n)) rfl
           have h4 := World.ownsRow.cells hr (g := wa) rfl 4 (uV (2 * symsAt n)) rfl
           rw [HGA.out] at h3
           rw [HSA.out] at h4
           exact ⟨hb.c 0 _ rfl, (HBOX.out v h.st).1, h.tw.blk.c 4 _ rfl, h3, h4⟩)
         have hTd := hT4.bel (below_drewN W66 1)
         have hbd := hK4.2.2.below (below_drewN W66 1) hK4.2.2.lt
         have hlsd := hls.bel (below_drewN W66 1)
         obtain ⟨W67, hal67⟩ : ∃ W, W66.drew.alloc (.cells #[.int .u64 4, .int .u64 (GA : Int), .int .u64 (SA : Int)] UT) = W := ⟨_, rfl⟩
         have b67 : Below W66.heap.size W66.drew W67 := by rw [← hal67]; exact alloc_bel W66.drew _
         have b67d : Below W66.drew.heap.size W66.drew W67 := b67
         have q67 : Blk UT W66.heap.size (rowV uV [4, GA, SA]) W67 := by rw [← hal67]; exact Blk.made W66.drew
         have hT67 := hTd.bel b67d
         have hls67 := hlsd.bel b67d
         have hb67 := hbd.below b67d hbd.lt
         obtain ⟨v68, w68, hrun67, hO68, hg68⟩ := app_u (xv := .slice (some ⟨W66.heap.size, 0, none⟩) 3 3) hls67 (Rd.blk q67 (by unfold maxLen; simp)) (by rw [hlsl]; simp only [List.length_cons, List.length_nil]; omega) hT67.sz
         have hT68 := hT67.grownU hg68 hls67 hap4 HNBx
         have hb68 := blk_grown hb67 hg68 hls67 (show UT ≠ BxU by decide)
         have hall : (listsK n N ++ [2 * schedAt n]) ++ [4, GA, SA] = allL n := by unfold allL; rw [← HGA.out, ← HSA.out, hNM.out]
         rw [hall] at hO68
         obtain ⟨a68, c68, rfl⟩ := hO68.form
         obtain ⟨AL, hAL⟩ : ∃ m, (allL n).length = m := ⟨_, rfl⟩
         have hALl : AL ≤ 200 := by rw [← hAL, ← hall, List.length_append, hlsl]; simp; omega
         rw [hAL] at hrun67
         obtain ⟨K10, hK10⟩ : ∃ l : List Th, l = thR w.heap.size UT (allL n).length (.slice a68 (allL n).length c68) ((allL n).map uV) :: K4 := ⟨_, rfl⟩
         have hT10 : Tn w.heap.size T sb w K10 (l3 n sup flds) (.slice (some ⟨g, 0, none⟩) m3 lc) vl4 w68 := by
           rw [hK10]
           exact hT68.cons (t := thR w.heap.size UT (allL n).length (.slice a68 (allL n).length c68) ((allL n).map uV)) hO68
         have HG10 : Hid (∀ v, Sta w.heap.size w v K10 → v.ownsRow w.heap.size UT 1 (.slice a68 (allL n).length c68) (allL n).length ((allL n).map uV) ∧ Sta w.heap.size w v K4) := Lib.hid (fun v h => by rw [hK10] at h; exact ⟨h.p0, h.tl⟩)
         have HN10 : Hid (noT TT K10 = true ∧ noT OT K10 = true) := Lib.hid (by rw [hK10]; exact ⟨by simp only [noT, List.all_cons]; exact HOK.out.tt, by simp only [noT, List.all_cons]; exact HOK.out.ot⟩)
         have HK10 := Lib.hid hK10
         have HT10 := Lib.hid hT10
         have HALL := Lib.hid hAL
         have HRun67 := Lib.hid hrun67
         have hS0 := HSX4.out _ _ hTd hbd
         have hS66 := HSX4.out _ _ hT67 hb67
         have hS67 := HSX4.out _ _ hT68 hb68
         clear hvl4 hl3 hap4 hx4 hTg hK4 hls hlsl hlslN hT4 HNBx hTd hbd hlsd b67 b67d q67 hT67 hls67 hb67 hrun67 hO68 hg68 hT68 hb68 hall hK10 hT10 hAL
         go_upto_region 66 with fail
         go_cut [362, 363, 364] from 350 to 364 (fun s362 s363 s364 wx => s362 = .slice a68 AL c68 ∧ s363 = .int .i64 (AL : Int) ∧ s364 = .int .i64 0 ∧ wx = w68)
         case first =>
          as_aux_lemma =>
          refine wp_region_noPanic ?_
          refine Hd.start (fun v => v.cell? ⟨bl, 0, none⟩ = some (.slice lsa lsl lsc) ∧ v.cell? ⟨bt, 0, none⟩ = some (.pointer (some ⟨T, 0, none⟩)) ∧ v.cell? ⟨T, 4, none⟩ = some (.int .u64 4) ∧ v.cell? ⟨wa, 3, none⟩ = some (.int .u64 (GA : Int)) ∧ v.cell? ⟨wa, 4, none⟩ = some (.int .u64 (SA : Int))) (by kernel_rfl) hS0 (fun hH0 => ?_)
          refine Hd.tk 0 12 hH0 ?_
          refine Hd.tk 1 2 hH0 ?_
          refine Hd.tk 2 3 hH0 ?_
          refine Hd.tk 3 4 hH0 ?_
          refine Hd.tk 4 11 hH0 ?_
          refine Hd.tk 5 6 hH0 ?_
          refine Hd.tk 6 7 hH0 ?_
          refine Hd.tk 7 11 hH0 ?_
          refine Hd.tk 8 9 hH0 ?_
          refine Hd.tk 9 10 hH0 ?_
          refine Hd.tk 10 11 hH0 ?_
          refine Hd.two 11 14 (o := ?_) (p := ?_) ?_ ?_ (by kernel_rfl) (fun K hK => ?_) (fun K hK => ?_)
          rotate_left 2
          · simp only [List.getElem?_toArray, List.getElem?_cons_succ, List.getElem?_cons_zero]
            exact rfl
          · simp only [List.getElem?_toArray, List.getElem?_cons_succ, List.getElem?_cons_zero]
            exact rfl
          · go_simp
            refine hK.out _ _ hS66 (fun hH1 => ?_)
            clear hK K
            try simp only [Act.put, List.setIfInBounds_toArray, List.set_cons_zero, List.set_cons_succ]
            refine Hd.two 12 14 (o := ?_) (p := ?_) ?_ ?_ (by kernel_rfl) (fun K hK => ?_) (fun K hK => ?_)
            rotate_left 2
            · simp only [List.getElem?_toArray, List.getElem?_cons_succ, List.getElem?_cons_zero]
              exact rfl
            · simp only [List.getElem?_toArray, List.getElem?_cons_succ, List.getElem?_cons_zero]
              exact rfl
            · refine step_app rfl _ _ _ rfl _ _ _ _ rfl rfl HRun67.out ?_
              refine hK.out _ _ hS67 (fun hH2 => ?_)
              clear hK K
              try simp only [Act.put, List.setIfInBounds_toArray, List.set_cons_zero, List.set_cons_succ]
              refine Hd.two 13 14 (o := ?_) (p := ?_) ?_ ?_ (by kernel_rfl) (fun K hK => ?_) (fun K hK => ?_)
              rotate_left 2
              · simp only [List.getElem?_toArray, List.getElem?_cons_succ, List.getElem?_cons_zero]
                exact rfl
              · simp only [List.getElem?_toArray, List.getElem?_cons_succ, List.getElem?_cons_zero]
                exact rfl
              · go_simp
                refine hK.out _ _ hS67 (fun hH3 => ?_)
                clear hK K
                try simp only [Act.put, List.setIfInBounds_toArray, List.set_cons_zero, List.set_cons_succ]
                refine Hd.la 14 (fun K hK => ?_)
                go_simp
                refine hK.out _ _ ?_
                clear hK K
                try simp only [Act.put, List.setIfInBounds_toArray, List.set_cons_zero, List.set_cons_succ]
                simp only [NoPanic]
                go_wp2_with fail
                go_meet
                exact ⟨rfl, rfl, rfl, rfl⟩
              · go_simp
                refine hK.out _ _ hS67 (fun hH3 => ?_)
                clear hK K
                try simp only [Act.put, List.setIfInBounds_toArray, List.set_cons_zero, List.set_cons_succ]
                refine Hd.la 13 (fun K hK => ?_)
                go_simp
                refine hK.out _ _ ?_
                clear hK K
                try simp only [Act.put, List.setIfInBounds_toArray, List.set_cons_zero, List.set_cons_succ]
                simp only [NoPanic]
                go_wp2_with fail
                go_meet
                exact ⟨rfl, rfl, rfl, rfl⟩
            · go_simp
              refine hK.out _ _ hS66 (fun hH2 => ?_)
              clear hK K
              try simp only [Act.put, List.setIfInBounds_toArray, List.set_cons_zero, List.set_cons_succ]
              refine Hd.on 12 (fun K hK => ?_)
              refine step_app rfl _ _ _ rfl _ _ _ _ rfl rfl HRun67.out ?_
              refine hK.out _ _ hS67 (fun hH3 => ?_)
              clear hK K
              try simp only [Act.put, List.setIfInBounds_toArray, List.set_cons_zero, List.set_cons_succ]
              refine Hd.la 13 (fun K hK => ?_)
              go_simp
              refine hK.out _ _ ?_
              clear hK K
              try simp only [Act.put, List.setIfInBounds_toArray, List.set_cons_zero, List.set_cons_succ]
              simp only [NoPanic]
              go_wp2_with fail
              go_meet
              exact ⟨rfl, rfl, rfl, rfl⟩
          · go_simp
            refine hK.out _ _ hS0 (fun hH1 => ?_)
            clear hK K
            try simp only [Act.put, List.setIfInBounds_toArray, List.set_cons_zero, List.set_cons_succ]
            refine Hd.on 11 (fun K hK => ?_)
            go_simp
            refine hK.out _ _ hS66 (fun hH2 => ?_)
            clear hK K
            try simp only [Act.put, List.setIfInBounds_toArray, List.set_cons_zero, List.set_cons_succ]
            refine Hd.on 12 (fun K hK => ?_)
            refine step_app rfl _ _ _ rfl _ _ _ _ rfl rfl HRun67.out ?_
            refine hK.out _ _ hS67 (fun hH3 => ?_)
            clear hK K
            try simp only [Act.put, List.setIfInBounds_toArray, List.set_cons_zero, List.set_cons_succ]
            refine Hd.la 13 (fun K hK => ?_)
            go_simp
            refine hK.out _ _ ?_
            clear hK K
            try simp only [Act.put, List.setIfInBounds_toArray, List.set_cons_zero, List.set_cons_succ]
            simp only [NoPanic]
            go_wp2_with fail
            go_meet
            exact ⟨rfl, rfl, rfl, rfl⟩
         case rest =>
          obtain ⟨rfl, rfl, rfl, hwc⟩ := hcut
          rw [hwc]
          clear hwc hal67 hS0 hS66 hS67
          go_upto_block 14 with fail
          go_cut [36] from 364 to 376 (fun s36 wx => ∃ lv vl, Hid (Tn w.heap.size T sb w K4 (l4 n sup flds) lv vl wx))
          case first =>
           as_aux_lemma =>
           go_wp2_with fail
           go_loopw [364, 36] (fun y _ wr => ∃ (k : Nat), y = .int .i64 (k : Int) ∧ k ≤ AL ∧ ∃ lv vl, Hid (Tn w.heap.size T sb w K10 (setC arrC ((allL n).take k) (l3 n sup flds)) lv vl wr)) (fun y _ _ => AL - (intOf y).toNat)
           case atStart => exact ⟨0, rfl, Nat.zero_le _, _, _, Lib.hid (by rw [List.take_zero, setC_nil]; exact HT10.out)⟩
           case round =>
            obtain ⟨k, rfl, hk, lv, vl, hI⟩ := hrel
            have hk22 : (k : Int) ≤ 200 := by omega
            have hA22 : (AL : Int) ≤ 200 := by omega
            by_cases hkn : k < AL
            · have e1 : decide ((k : Int) < (AL : Int)) = true := decide_eq_true (by omega)
              have e2 : (k : Int) < (AL : Int) := by omega
              have e3 : decide (k < AL) = true := decide_eq_true hkn
              obtain ⟨E, hE⟩ : ∃ E, (allL n)[k]? = some E := ⟨_, List.getElem?_eq_getElem (by rw [HALL.out]; exact hkn)⟩
              have hrow := (HG10.out _ hI.out.st).1
              obtain ⟨ga8, rfl⟩ : ∃ g, a68 = some ⟨g, 0, none⟩ := by
                obtain ⟨gg, c, e⟩ := own_form hrow (by rw [HALL.out]; omega)
                injection e with e1 e2 e3
                exact ⟨gg, e1⟩
              have cn : wr.cell? ⟨ga8, k, none⟩ = some (.int .u64 (E : Int)) := by
                have := World.ownsRow.cells hrow (g := ga8) rfl k (uV E) (by rw [List.getElem?_map, hE]; rfl)
                rw [addr_add] at this
                exact this
              have cb := (HBOX.out _ (HG10.out _ hI.out.st).2).1
              have htk : (allL n).take (k + 1) = (allL n).take k ++ [E] := by
                obtain ⟨h1, h2⟩ := List.getElem?_eq_some_iff.1 hE
                rw [List.take_succ_eq_append_getElem h1, h2]
              obtain ⟨g, m, lc, kk, x, hlv, hx, hcls⟩ := hI.out.cls HEC.out.c3 (by have := HEC.out.e3; omega) (HEC.out.al E (List.mem_of_getElem? hE)) HN10.out.1 HN10.out.2
              have HI := Lib.hid hI.out
              have HCLS := Lib.hid hcls
              have HTK := Lib.hid htk
              subst hlv
              clear hE hrow htk hx hcls hI
              go_wp2_with fail
              refine ((HCLS.out _ HI.out).1).mono ?_; rintro e w8 ⟨rfl, hb8⟩
              have HT8' := Lib.hid (HI.out.bel hb8)
              clear hb8
              go_wp2_with fail
              have hR14 := HROOT.out w8 (HG10.out _ HT8'.out.st).2 14 (by omega) (by omega)
              rw [show ((2 * clsAt (14 - 5) : Nat) : Int) = (arrC : Int) from rfl] at hR14
              refine hR14.mono ?_; rintro e w9 ⟨rfl, hb9⟩
              obtain ⟨-, q1, q2, -, q4⟩ := HCLS.out _ (HT8'.out.bel hb9)
              rw [← HTK.out] at q4
              have HE9 := Lib.hid q4
              clear hR14 hb9 q4
              go_wp2_with fail
              exact ⟨⟨k + 1, by simp, by omega, _, _, HE9⟩, by simp only [intOf]; omega⟩
            · obtain rfl : k = AL := by omega
              have e1 : decide ((k : Int) < (k : Int)) = false := decide_eq_false (by omega)
              have e3 : decide (k < k) = false := decide_eq_false (by omega)
              have HE : Hid (Tn w.heap.size T sb w K4 (l4 n sup flds) lv vl wr) := Lib.hid (by
                have h := hI.out
                rw [List.take_of_length_le (by rw [HALL.out]; exact Nat.le_refl _), HK10.out] at h
                exact h.tl)
              clear hI
              go_wp2_with fail
              go_meet
              exact ⟨_, _, HE⟩
          case rest =>
           rename World => X8
           obtain ⟨lv, vl, hI⟩ := hcut
           have HI8 := Lib.hid hI.out
           clear hI
           go_upto_block 16 with fail
           go_cut [37, 38] from 379 to 394 (fun s37 s38 wx => ∃ lv vl, Hid (Tn w.heap.size T sb w K4 (layL n sup flds) lv vl wx))
           case first =>
            as_aux_lemma =>
            go_wp2_with fail
            go_loopw [379, 37, 38] (fun y _ _ wr => ∃ (k : Nat), y = .int .i64 (k : Int) ∧ k ≤ 3 ∧ ∃ lv vl, Hid (Tn w.heap.size T sb w K4 (nilC n k (l4 n sup flds)) lv vl wr)) (fun y _ _ _ => 3 - (intOf y).toNat)
            case atStart => exact ⟨0, rfl, Nat.zero_le _, _, _, HI8⟩
            case round =>
             obtain ⟨k, rfl, hk, lv, vl, hI⟩ := hrel
             have hk22 : (k : Int) ≤ 3 := by omega
             by_cases hkn : k < 3
             · have e1 : decide ((k : Int) < 3) = true := decide_eq_true (by omega)
               have e2 : (k : Int) < 3 := by omega
               have e3 : decide (k < 3) = true := decide_eq_true hkn
               obtain ⟨E, hE⟩ : ∃ E, 2 * nilAt n k = E := ⟨_, rfl⟩
               have cn : wr.cell? ⟨nb, k, none⟩ = some (.int .u64 (E : Int)) := by
                 have h := HNIL.out _ hI.out.st
                 rw [← HE0.out, ← HE1.out, ← HE2.out] at h
                 rw [← hE]
                 match k, hkn with
                 | 0, _ => exact h.1
                 | 1, _ => exact h.2.1
                 | 2, _ => exact h.2.2
               have cb := (HBOX.out _ hI.out.st).1
               have hhw : hasW (nilC n k (l4 n sup flds)) E = true := by
                 rw [hasW_nilC, ← hE]
                 unfold l4
                 rw [hasW_setC]
                 match k, hkn with
                 | 0, _ => exact HEC.out.nl.1
                 | 1, _ => exact HEC.out.nl.2.1
                 | 2, _ => exact HEC.out.nl.2.2
               have hch := nilC_chain n (setC_chain (c := arrC) (P := allL n) HEC.out.c3).1 k
               have hce : endL 2 (nilC n k (l4 n sup flds)) ≤ 100000 := by
                 have h2 := (setC_chain (c := arrC) (P := allL n) HEC.out.c3).2
                 have h3 := HEC.out.e3
                 have h4 : endL 2 (nilC n k (l4 n sup flds)) = endL 2 (setC arrC (allL n) (l3 n sup flds)) := hch.2
                 omega
               obtain ⟨CC, hCC⟩ : ∃ c, 2 * clsAt (3 + k) = c := ⟨_, rfl⟩
               have hI2 : Tn w.heap.size T sb w K4 (setC CC [] (nilC n k (l4 n sup flds))) lv vl wr := by rw [setC_nil]; exact hI.out
               obtain ⟨g, m, lc, kk, x, hlv, hx, hcls⟩ := hI2.cls hch.1 hce hhw HOK.out.tt HOK.out.ot
               obtain ⟨i, hi⟩ : ∃ i, 8 + k = i := ⟨_, rfl⟩
               have hii : (8 : Int) + (k : Int) = (i : Int) := by omega
               have hw8 : IntKind.i64.wrap (i : Int) = (i : Int) := by rw [IntKind.wrap_i64]; omega
               have HI := Lib.hid hI2
               have HCLS := Lib.hid hcls
               have HCC := Lib.hid hCC
               have HE := Lib.hid hE
               have HII := Lib.hid hi
               subst hlv
               clear hE hhw hch hce hCC hI2 hx hcls hI hi
               go_wp2_with fail
               refine ((HCLS.out _ HI.out).1).mono ?_; rintro e w8 ⟨rfl, hb8⟩
               have HT8' := Lib.hid (HI.out.bel hb8)
               clear hb8
               go_wp2_with fail
               have hR14 := HROOT.out w8 HT8'.out.st i (by have := HII.out; omega) (by have := HII.out; omega)
               rw [show i - 5 = 3 + k by have := HII.out; omega, HCC.out] at hR14
               refine hR14.mono ?_; rintro e w9 ⟨rfl, hb9⟩
               obtain ⟨-, q1, q2, -, q4⟩ := HCLS.out _ (HT8'.out.bel hb9)
               rw [List.nil_append, ← HCC.out, ← HE.out] at q4
               have HE9 : Hid (Tn w.heap.size T sb w K4 (nilC n (k + 1) (l4 n sup flds)) (.slice (some ⟨g, 0, none⟩) m lc) (vl.set kk ({ x.1 with hd := { x.1.hd with cls := 2 * clsAt (3 + k) } }, x.2)) (w9.setCell ⟨g, kk * 8 + 1, none⟩ (.int .u64 (CC : Int)))) := Lib.hid (by
                 have h := q4
                 rw [show (Value.int IntKind.u64 ((2 * clsAt (3 + k) : Nat) : Int)) = .int .u64 (CC : Int) by rw [HCC.out]] at h
                 exact h)
               clear hR14 hb9 q4
               go_wp2_with fail
               exact ⟨⟨k + 1, by simp, by omega, _, _, HE9⟩, by simp only [intOf]; omega⟩
             · obtain rfl : k = 3 := by omega
               have HE : Hid (Tn w.heap.size T sb w K4 (layL n sup flds) lv vl wr) := Lib.hid (by rw [← lay_end n hn6]; exact hI.out)
               clear hI
               go_wp2_with fail
               go_meet
               exact ⟨_, _, HE⟩
           case rest =>
            rename World => X9
            obtain ⟨lv, vl, hI⟩ := hcut
            have hTd := hI.out.bel (below_drewN X9 1)
            obtain ⟨la, lc, rfl⟩ := hTd.tw.row.form
            obtain ⟨m, hm⟩ : ∃ m, vl.length = m := ⟨_, rfl⟩
            rw [hm] at hTd
            have HSZ9 : Hid (∀ v, Tn w.heap.size T sb w K4 (layL n sup flds) (.slice la m lc) vl v → v.cell? ⟨bt, 0, none⟩ = some (.pointer (some ⟨T, 0, none⟩)) ∧ v.cell? ⟨T, 0, none⟩ = some (.int .i64 3000) ∧ v.cell? ⟨T, 1, none⟩ = some (.slice la m lc) ∧ v.cell? ⟨T, 2, none⟩ = some (.int .u32 0) ∧ v.cell? ⟨T, 4, none⟩ = some (.int .u64 4)) := Lib.hid (fun v h => ⟨(HBOX.out v h.st).1, h.tw.blk.c 0 _ rfl, h.tw.blk.c 1 _ rfl, h.tw.blk.c 2 _ rfl, h.tw.blk.c 4 _ rfl⟩)
            have hSd := HSZ9.out _ hTd
            have g0 := HG0.out _ (HG3.out _ (HG4.out _ hTd.st).2).2.2.2
            obtain ⟨Y0, hY0⟩ : ∃ Y, X9.drew = Y := ⟨_, rfl⟩
            have hb0 : Blk RHT br #[.int .i64 0, .slice none 0 0, .int .u32 0] Y0 := by rw [← hY0]; exact g0.2.1
            have hp0 : Blk PTT bt #[.pointer (some ⟨T, 0, none⟩)] Y0 := by rw [← hY0]; exact g0.2.2.1
            have ht0 : Tw w.heap.size T sb Y0 (.slice la m lc) vl 4 := by rw [← hY0]; exact hTd.tw
            have hw0 : Below w.heap.size w Y0 := by rw [← hY0]; exact hTd.st.1
            have hbrB : w.heap.size ≤ br := by have := HORD.out; omega
            obtain ⟨Y1, hY1⟩ : ∃ Y, Y0.setCell ⟨br, 0, none⟩ (.int .i64 3000) = Y := ⟨_, rfl⟩
            obtain ⟨Y2, hY2⟩ : ∃ Y, Y1.setCell ⟨br, 1, none⟩ (.slice la m lc) = Y := ⟨_, rfl⟩
            obtain ⟨Y3, hY3⟩ : ∃ Y, Y2.setCell ⟨br, 2, none⟩ (.int .u32 0) = Y := ⟨_, rfl⟩
            have hb1 : Blk RHT br #[.int .i64 3000, .slice none 0 0, .int .u32 0] Y1 := by rw [← hY1]; exact hb0.set_ 0 _ _ rfl
            have hb2 : Blk RHT br #[.int .i64 3000, .slice la m lc, .int .u32 0] Y2 := by rw [← hY2]; exact hb1.set_ 1 _ _ rfl
            have hb3 : Blk RHT br #[.int .i64 3000, .slice la m lc, .int .u32 0] Y3 := by rw [← hY3]; exact hb2.set_ 2 _ _ rfl
            have ht1 : Tw w.heap.size T sb Y1 (.slice la m lc) vl 4 := by rw [← hY1]; exact ht0.far hb0 (by decide) (by decide) (by decide) (by decide) 0 _
            have ht2 : Tw w.heap.size T sb Y2 (.slice la m lc) vl 4 := by rw [← hY2]; exact ht1.far hb1 (by decide) (by decide) (by decide) (by decide) 1 _
            have ht3 : Tw w.heap.size T sb Y3 (.slice la m lc) vl 4 := by rw [← hY3]; exact ht2.far hb2 (by decide) (by decide) (by decide) (by decide) 2 _
            have hp1 : Blk PTT bt #[.pointer (some ⟨T, 0, none⟩)] Y1 := by rw [← hY1]; exact blk_set hp0 hb0 (by decide) 0 _
            have hp2 : Blk PTT bt #[.pointer (some ⟨T, 0, none⟩)] Y2 := by rw [← hY2]; exact blk_set hp1 hb1 (by decide) 1 _
            have hp3 : Blk PTT bt #[.pointer (some ⟨T, 0, none⟩)] Y3 := by rw [← hY3]; exact blk_set hp2 hb2 (by decide) 2 _
            have hw3 : Below w.heap.size w Y3 := by rw [← hY3, ← hY2, ← hY1]; exact ((hw0.setCell hbrB _).setCell hbrB _).setCell hbrB _
            have c00 : Y0.cell? ⟨br, 0, none⟩ = some (.int .i64 0) := hb0.c 0 _ rfl
            have c11 : Y1.cell? ⟨br, 1, none⟩ = some (.slice none 0 0) := hb1.c 1 _ rfl
            have c22 : Y2.cell? ⟨br, 2, none⟩ = some (.int .u32 0) := hb2.c 2 _ rfl
            have z00 : Y0.frozen? ⟨br, 0, none⟩ = false := hb0.fz 0
            have z11 : Y1.frozen? ⟨br, 1, none⟩ = false := hb1.fz 1
            have z22 : Y2.frozen? ⟨br, 2, none⟩ = false := hb2.fz 2
            have c30 : Y3.cell? ⟨br, 0, none⟩ = some (.int .i64 3000) := hb3.c 0 _ rfl
            have c31 : Y3.cell? ⟨br, 1, none⟩ = some (.slice la m lc) := hb3.c 1 _ rfl
            have c32 : Y3.cell? ⟨br, 2, none⟩ = some (.int .u32 0) := hb3.c 2 _ rfl
            have hS3 : Y3.cell? ⟨bt, 0, none⟩ = some (.pointer (some ⟨T, 0, none⟩)) ∧ Y3.cell? ⟨T, 0, none⟩ = some (.int .i64 3000) ∧ Y3.cell? ⟨T, 1, none⟩ = some (.slice la m lc) ∧ Y3.cell? ⟨T, 2, none⟩ = some (.int .u32 0) ∧ Y3.cell? ⟨T, 4, none⟩ = some (.int .u64 4) := ⟨hp3.c 0 _ rfl, ht3.blk.c 0 _ rfl, ht3.blk.c 1 _ rfl, ht3.blk.c 2 _ rfl, ht3.blk.c 4 _ rfl⟩
            have HRES : Hid (LayR n sup flds w (.returned (.tuple #[.agg #[.int .i64 3000, .slice la m lc, .int .u32 0], .int .u64 4])) Y3) := Lib.hid ⟨.slice la m lc, vl, rfl, hTd.eq, ht3.row, ht3.rds, hw3⟩
            clear g0 hb0 hp0 ht0 hw0 hbrB hb1 hb2 hb3 ht1 ht2 ht3 hp1 hp2 hp3 hw3 hTd hm hI
            go_wp2_with fail
            refine wp_region_noPanic ?_
            refine Hd.start (fun v => v.cell? ⟨bt, 0, none⟩ = some (.pointer (some ⟨T, 0, none⟩)) ∧ v.cell? ⟨T, 0, none⟩ = some (.int .i64 3000) ∧ v.cell? ⟨T, 1, none⟩ = some (.slice la m lc) ∧ v.cell? ⟨T, 2, none⟩ = some (.int .u32 0) ∧ v.cell? ⟨T, 4, none⟩ = some (.int .u64 4)) (by kernel_rfl) hSd (fun hH0 => ?_)
            refine Hd.tk 0 1 hH0 ?_
            refine Hd.tk 1 2 hH0 ?_
            refine Hd.tk 2 3 hH0 ?_
            refine Hd.tk 3 8 hH0 ?_
            refine Hd.tk 4 5 hH0 ?_
            refine Hd.tk 5 6 hH0 ?_
            refine Hd.tk 6 7 hH0 ?_
            refine Hd.tk 7 9 hH0 ?_
            refine Hd.on 8 (fun K hK => ?_)
            go_simp
            refine hK.out _ _ hS3 (fun hH1 => ?_)
            clear hK K
            try simp only [Act.put, List.setIfInBounds_toArray, List.set_cons_zero, List.set_cons_succ]
            refine Hd.la 9 (fun K hK => ?_)
            go_simp
            refine hK.out _ _ ?_
            clear hK K
            try simp only [Act.put, List.setIfInBounds_toArray, List.set_cons_zero, List.set_cons_succ]
            simp only [NoPanic]
            go_wp2_with fail
            refine bodyPost_ret (v := .tuple #[.agg #[.int .i64 3000, .slice la m lc, .int .u32 0], .int .u64 4]) (by simp [results, Try.results19, go_sem, c30, c31, c32]) rfl ?_
            first | exact HRES.out | (rw [hn]; exact HRES.out)
end Hp
end Go.Proofs.Ytojblndlchcjeaa
