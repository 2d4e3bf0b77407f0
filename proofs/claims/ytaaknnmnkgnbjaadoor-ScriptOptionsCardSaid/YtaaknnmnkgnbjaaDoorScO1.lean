/- ScriptOptions, the walk, 1: slices that came in; few. -/
import Derived.Test.YtaaknnmnkgnbjaaDoorScWa
set_option linter.unusedVariables false
namespace Go.Proofs.YtaaknnmnkgnbjaaDoor
open Go.RowKit
namespace Sc
open Bs Sm
theorem own_set_ne {w : World} {B e size n k : Nat} {v : Value} {xs : List Value} (h : w.ownsRow B e size v n xs) (hne : v.ownBlock ≠ some k) (i : Nat) (u : Value) : (w.setCell ⟨k, i, none⟩ u).ownsRow B e size v n xs :=
  h.kept (row := some k) ⟨rfl, rfl, rfl, by simp [World.setCell], fun j _ hj => Below.heap_setCell _ _ _ _ (fun e => hj (by simp [e]))⟩ (.inr hne)
/-- A slice whose elements can be read, wherever it lies. -/
def Rd {α : Type} (f : α → Value) (w : World) (v : Value) (l : List α) : Prop :=
  ∃ a cap, v = .slice a l.length cap ∧ l.length ≤ cap ∧ cap ≤ maxLen ∧ (a = none → cap = 0) ∧ (0 < l.length → ∃ b off, a = some ⟨b, off, none⟩ ∧ b < w.heap.size ∧ ∀ i x, l[i]? = some x → w.cell? ⟨b, off + i, none⟩ = some (f x))
theorem Rd.below {α : Type} {f : α → Value} {w w' : World} {v : Value} {l : List α} (h : Rd f w v l) (hb : Below w.heap.size w w') : Rd f w' v l := by
  obtain ⟨a, cap, h1, h2, h3, h5, h4⟩ := h
  refine ⟨a, cap, h1, h2, h3, h5, fun hl => ?_⟩
  obtain ⟨b, off, k1, k2, k3⟩ := h4 hl
  exact ⟨b, off, k1, Nat.lt_of_lt_of_le k2 hb.size, fun i x hx => (hb.cell (p := ⟨b, off + i, none⟩) k2).trans (k3 i x hx)⟩
theorem Rd.cut {α : Type} {f : α → Value} {w : World} {a : Option Addr} {n cap : Nat} {l : List α} (h : Rd f w (.slice a n cap) l) (k : Nat) (hk : k ≤ n) : n = l.length ∧ Rd f w (.slice a k cap) (l.take k) := by
  obtain ⟨a', cap', h1, h2, h3, h5, h4⟩ := h
  cases h1
  have hl : (l.take k).length = k := by rw [List.length_take]; omega
  refine ⟨rfl, a, cap, by rw [hl], by rw [hl]; omega, h3, h5, fun hl2 => ?_⟩
  rw [hl] at hl2
  obtain ⟨b, off, k1, k2, k3⟩ := h4 (by omega)
  refine ⟨b, off, k1, k2, fun i x hx => k3 i x ?_⟩
  rw [List.getElem?_take] at hx
  split at hx
  · exact hx
  · cases hx
theorem Rd.of {α : Type} {f : α → Value} {w : World} {B e : Nat} {v : Value} {l : List α} (h : w.ownsRow B e 1 v l.length (l.map f)) : Rd f w v l := by
  have hlt := h.lt
  have h0 := h
  rcases h.2 with ⟨rfl, hn⟩ | ⟨g, cap, cur, rfl, hb, hg, hnc, hcm, _⟩
  · exact ⟨none, 0, by rw [hn], by omega, by unfold maxLen; omega, fun _ => rfl, fun hl => by omega⟩
  · refine ⟨some ⟨g, 0, none⟩, cap, rfl, hnc, hcm, (fun h => by cases h), fun _ => ⟨g, 0, rfl, (hlt g rfl).2, fun i x hx => ?_⟩⟩
    have hc := World.ownsRow.cells h0 (g := g) rfl i (f x) (by rw [List.getElem?_map, hx]; rfl)
    rw [Nat.zero_add]
    have e : (⟨g, 0, none⟩ : Addr).add i = ⟨g, i, none⟩ := by unfold Addr.add; split <;> simp_all
    rw [e] at hc
    exact hc
theorem run_rd {α : Type} {f : α → Value} (hf : ∀ x, (f x).oneCell' = true) {P : Program} {w : World} (t ty e : TypeId) (tsl : P.underlying t = some (.slice e)) (i0 : TypeInfo) (z : Value) (bytes : Nat)
    (h2 : P.info? e = some i0) (h3 : i0.zero = some z) (h4 : i0.size = 1) (h5 : i0.bytes = bytes) (h6 : z.cells.size = 1) {B0 n : Nat} {v xv : Value} {xs : List Value} {l : List α}
    (hd : w.ownsRow B0 e 1 v n xs) (hs : Rd f w xv l) (b1 : n + l.length ≤ maxLen) (b2 : (n + l.length) * bytes ≤ 140737488355328) (hB : B0 ≤ w.heap.size) :
    ∃ v' w', (Builtin.append_ #[t, t] ty #[v, xv]).run P w = .ok v' w' ∧ w'.ownsRow B0 e 1 v' (n + l.length) (xs ++ l.map f) ∧ w.grownBy w' v.ownBlock := by
  obtain ⟨a, cap, rfl, hc, hm, hnone, hcell⟩ := hs
  cases a with
  | none =>
    obtain rfl := hnone rfl
    obtain rfl : l = [] := List.eq_nil_of_length_eq_zero (by omega)
    exact ⟨v, w, run_append_owned_none (P := P) (w := w) B0 t ty e i0 1 tsl h2 v n xs hd, by simpa using hd, ⟨rfl, rfl, rfl, Nat.le_refl _, fun _ _ _ => rfl⟩⟩
  | some ad =>
    obtain ⟨v', w', hrun, r1, r2, _⟩ := run_append_own (P := P) w B0 t ty e i0 z 1 bytes tsl h2 h3 h4 h5 h6 (by decide) v n xs hd ad l.length cap (l.map f) (by simp) (fun j u hj => by
      rw [List.getElem?_map] at hj
      obtain ⟨x, hx, rfl⟩ := Option.map_eq_some_iff.1 hj
      have hjl := (List.getElem?_eq_some_iff.1 hx).1
      obtain ⟨b, off, hab, _, hcc⟩ := hcell (by omega)
      cases hab
      have e : (⟨b, off, none⟩ : Addr).add j = ⟨b, off + j, none⟩ := by unfold Addr.add; split <;> simp_all
      rw [e]
      exact hcc j x hx) (fun u hu => by obtain ⟨x, _, rfl⟩ := List.mem_map.1 hu; exact hf x) b1 b2 hB
    exact ⟨v', w', hrun, r1, r2⟩
theorem wpList_rd {α : Type} {f : α → Value} (hf : ∀ x, (f x).oneCell' = true) {P : Program} (w : World) {ops : Array Oper} {rest : List Oper} {o : Oper} {a : Act} {Q : Exit → Act → World → Prop} (hw : Region.wanted o (yielded ops a.tmps) = true) (s x : Operand) (t e : TypeId)
    (hop : o.op = Op.call { callee := Callee.builtin Builtin.append, args := #[s, x], argTypes := #[t, t] }) (tsl : P.underlying t = some (.slice e)) (i0 : TypeInfo) (z : Value) (bytes : Nat)
    (h2 : P.info? e = some i0) (h3 : i0.zero = some z) (h4 : i0.size = 1) (h5 : i0.bytes = bytes) (h6 : z.cells.size = 1) {B0 n : Nat} {v xv : Value} {xs : List Value} {l : List α}
    (hd : w.ownsRow B0 e 1 v n xs) (hs : a.eval s = v) (hx : a.eval x = xv) (hsrc : Rd f w xv l) (b1 : n + l.length ≤ maxLen) (b2 : (n + l.length) * bytes ≤ 140737488355328) (hB : B0 ≤ w.heap.size)
    (hK : ∀ v' w', w'.ownsRow B0 e 1 v' (n + l.length) (xs ++ l.map f) → w.grownBy w' v.ownBlock → wpList P ops Q rest (a.put o.dst v') w') :
    wpList P ops Q (o :: rest) a w := by
  refine Go.BigFrame.wpList_want hw fun K' hK' => ?_
  obtain ⟨v', w', hrun, r1, r2⟩ := run_rd hf t o.type e tsl i0 z bytes h2 h3 h4 h5 h6 hd hsrc b1 b2 hB
  unfold Oper.wp
  simp [execOp, hop, resolve, invoke, builtin, hs, hx, hrun, Result.andThen]
  exact hK' _ _ (hK v' w' r1 r2)
theorem step_rd {α : Type} {f : α → Value} (hf : ∀ x, (f x).oneCell' = true) {P : Program} {w : World} {ops : Array Oper} {o : Oper} {a : Act} {K : Act → World → Prop} {Q : Exit → Act → World → Prop} {E' : Prop} (hg : o.guard = none) (s x : Operand) (t e : TypeId)
    (hop : o.op = Op.call { callee := Callee.builtin Builtin.append, args := #[s, x], argTypes := #[t, t] }) (tsl : P.underlying t = some (.slice e)) (i0 : TypeInfo) (z : Value) (bytes : Nat)
    (h2 : P.info? e = some i0) (h3 : i0.zero = some z) (h4 : i0.size = 1) (h5 : i0.bytes = bytes) (h6 : z.cells.size = 1) {B0 n : Nat} {v xv : Value} {xs : List Value} {l : List α}
    (hd : w.ownsRow B0 e 1 v n xs) (hs : a.eval s = v) (hx : a.eval x = xv) (hsrc : Rd f w xv l) (b1 : n + l.length ≤ maxLen) (b2 : (n + l.length) * bytes ≤ 140737488355328) (hB : B0 ≤ w.heap.size)
    (hK : ∀ v' w', w'.ownsRow B0 e 1 v' (n + l.length) (xs ++ l.map f) → w.grownBy w' v.ownBlock → K (a.put o.dst v') w') :
    if Region.wanted o (yielded ops a.tmps) = true then Oper.wp P o a w K Q else E' := by
  have hw : Region.wanted o (yielded ops a.tmps) = true := by simp [Region.wanted, hg]
  rw [if_pos hw]
  obtain ⟨v', w', hrun, r1, r2⟩ := run_rd hf t o.type e tsl i0 z bytes h2 h3 h4 h5 h6 hd hsrc b1 b2 hB
  unfold Oper.wp
  simp [execOp, hop, resolve, invoke, builtin, hs, hx, hrun, Result.andThen]
  exact hK v' w' r1 r2
set_option maxRecDepth 100000 in
set_option maxHeartbeats 1600000 in
theorem copy_any (v : Value) (l : Bytes) (w : World) (hl : Rd byteV w v l) (hn : l.length ≤ 100000) :
    Calls Tryd.prog 13 #[v] w (fun e w' => Below w.heap.size w w' ∧ ∃ v', e = .returned v' ∧ Byts w.heap.size v' l w') := by
  obtain ⟨iU, hiU, hU0, hU1, hU2⟩ := info_parts (show (Tryd.prog.info? U8).map (fun i => (i.zero, i.size, i.bytes)) = some (some (.int .u8 0), 1, 1) by kernel_rfl)
  have tU : Tryd.prog.underlying 25 = some (.slice U8) := by kernel_rfl
  have HL := Lib.hid hl
  clear hl
  have hE : (w.alloc (.cells #[] U8)).ownsRow w.heap.size U8 1 (.slice (some ⟨w.heap.size, 0, none⟩) 0 0) 0 [] := World.ownsRow_made (e := U8) (size := 1) w #[] 0 (Nat.le_refl _) (by unfold maxLen; omega) rfl
  have hX : Below w.heap.size w (w.alloc (.cells #[] U8)) := (Below.refl _ w).alloc (Nat.le_refl _) _
  have HE := Lib.hid hE
  have HX := Lib.hid hX
  clear hE hX
  go_enter Tryd.func13, Tryd.ntmps13
  go_wp2_with (at_builtin; refine wpList_rd (f := byteV) (fun _ => rfl) _ ?hw _ _ 25 U8 rfl tU iU (.int .u8 0) 1 hiU hU0 hU1 hU2 rfl HE.out rfl rfl (HL.out.below HX.out) ?c1 ?c2 ?c3 ?_)
  case c1 => unfold maxLen; omega
  case c2 => omega
  case c3 => simp
  intro v6 w6 hown6 hg6
  have hb6 := HX.out.grown hg6 HX.out.size (fun k hk => (HE.out.lt k hk).1)
  have HO := Lib.hid (show Byts w.heap.size v6 l w6 from hown6)
  clear hown6 hg6
  go_wp2_with fail
  go_ret
  exact ⟨hb6, _, rfl, HO.out⟩
/-- Commands that can be read. -/
def InC (w : World) (v : Value) (cs : List Cmd) : Prop :=
  ∃ (cl : List (Cmd × Value × Value)) (a : Option Addr) (cap : Nat), cl.map (·.1) = cs ∧ v = .slice a cl.length cap ∧ cl.length ≤ cap ∧ cap ≤ maxLen ∧
    (0 < cl.length → ∃ b off, a = some ⟨b, off, none⟩ ∧ b < w.heap.size ∧ ∀ i x, cl[i]? = some x →
      w.cell? ⟨b, off + i * 5, none⟩ = some (.int .i64 x.1.kind) ∧ w.cell? ⟨b, off + i * 5 + 1, none⟩ = some (.int .i64 x.1.n) ∧ w.cell? ⟨b, off + i * 5 + 2, none⟩ = some (.int .i64 x.1.at_) ∧ w.cell? ⟨b, off + i * 5 + 3, none⟩ = some x.2.1 ∧ w.cell? ⟨b, off + i * 5 + 4, none⟩ = some x.2.2) ∧
    ∀ x ∈ cl, Rd intV w x.2.1 x.1.list ∧ Rd byteV w x.2.2 x.1.bytes
/-- A row of one's own whose commands' parts can be read. -/
def FewAt (w0 : World) (B : Nat) (w : World) (v : Value) (cs : List Cmd) : Prop :=
  ∃ cl : List (Cmd × Value × Value), cl.map (·.1) = cs ∧ w.ownsRow B RcT 5 v cl.length (flatM cl) ∧ ∀ x ∈ cl, Rd intV w0 x.2.1 x.1.list ∧ Rd byteV w0 x.2.2 x.1.bytes
def Few (B : Nat) (w : World) (v : Value) (cs : List Cmd) : Prop := FewAt w B w v cs
theorem FewAt.few {w0 w : World} {B : Nat} {v : Value} {cs : List Cmd} (h : FewAt w0 B w v cs) (hb : Below w0.heap.size w0 w) : Few B w v cs := by
  obtain ⟨cl, h1, h2, h3⟩ := h
  exact ⟨cl, h1, h2, fun x hx => ⟨(h3 x hx).1.below hb, (h3 x hx).2.below hb⟩⟩
theorem FewAt.below {w0 w w' : World} {B : Nat} {v : Value} {cs : List Cmd} (h : FewAt w0 B w v cs) (hb : Below w.heap.size w w') : FewAt w0 B w' v cs := by
  obtain ⟨cl, h1, h2, h3⟩ := h
  exact ⟨cl, h1, own_below h2 hb, h3⟩
theorem FewAt.grown {w0 w w' : World} {B B' e size n : Nat} {v u : Value} {xs : List Value} {cs : List Cmd} (h : FewAt w0 B w v cs) (hg : w.grownBy w' u.ownBlock) (ho : w.ownsRow B' e size u n xs) (hne : RcT ≠ e) : FewAt w0 B w' v cs := by
  obtain ⟨cl, h1, h2, h3⟩ := h
  exact ⟨cl, h1, own_grown h2 hg ho hne, h3⟩
def few1 (c : Cmd) : Cmd := { c with list := c.list.take 20, bytes := c.bytes.take 40000 }
def fewR (cs : List Cmd) : List Cmd := (cs.take 12).map few1
set_option maxRecDepth 100000 in
set_option maxHeartbeats 3200000 in
theorem few_any (w0 : World) (v : Value) (cs : List Cmd) (w : World) (hl : InC w0 v cs) (hb0 : Below w0.heap.size w0 w) :
    Calls Tryd.prog 6 #[v] w (fun e w' => Below w.heap.size w w' ∧ ∃ v', e = .returned v' ∧ FewAt w0 w.heap.size w' v' (fewR cs)) := by
  obtain ⟨i0, hi0, hz0, hz1, hz2⟩ := info_parts (show (Tryd.prog.info? RcT).map (fun i => (i.zero, i.size, i.bytes)) = some (some (.agg #[.int .i64 0, .int .i64 0, .int .i64 0, .slice none 0 0, .slice none 0 0]), 5, 72) by kernel_rfl)
  have tsl : Tryd.prog.underlying 22 = some (.slice RcT) := by kernel_rfl
  obtain ⟨cl, ao, cap, hcl, rfl, hcap, hcm, hcells, hrd⟩ := hl
  replace hcells : 0 < cl.length → ∃ b off, ao = some ⟨b, off, none⟩ ∧ b < w.heap.size ∧ ∀ i x, cl[i]? = some x →
      w.cell? ⟨b, off + i * 5, none⟩ = some (.int .i64 x.1.kind) ∧ w.cell? ⟨b, off + i * 5 + 1, none⟩ = some (.int .i64 x.1.n) ∧ w.cell? ⟨b, off + i * 5 + 2, none⟩ = some (.int .i64 x.1.at_) ∧ w.cell? ⟨b, off + i * 5 + 3, none⟩ = some x.2.1 ∧ w.cell? ⟨b, off + i * 5 + 4, none⟩ = some x.2.2 := fun hl => by
    obtain ⟨b, off, k1, k2, k3⟩ := hcells hl
    refine ⟨b, off, k1, Nat.lt_of_lt_of_le k2 hb0.size, fun i x hx => ?_⟩
    obtain ⟨c0, c1, c2, c3, c4⟩ := k3 i x hx
    exact ⟨(hb0.cell (p := ⟨b, _, none⟩) k2).trans c0, (hb0.cell (p := ⟨b, _, none⟩) k2).trans c1, (hb0.cell (p := ⟨b, _, none⟩) k2).trans c2, (hb0.cell (p := ⟨b, _, none⟩) k2).trans c3, (hb0.cell (p := ⟨b, _, none⟩) k2).trans c4⟩
  obtain ⟨n, hnn⟩ : ∃ n, cl.length = n := ⟨_, rfl⟩
  rw [hnn] at hcap hcells ⊢
  have HCL := Lib.hid hcl
  have HRD := Lib.hid hrd
  have HN := Lib.hid hnn
  clear hcl hrd hnn
  go_enter Tryd.func6, Tryd.ntmps6
  go_wp2_with fail
  go_loopw [3, 4] (fun v y wr => ∃ k : Nat, y = .int .i64 (k : Int) ∧ k ≤ n ∧ k ≤ 12 ∧ Hid (∃ cl' : List (Cmd × Value × Value), cl'.map (·.1) = (cs.take k).map few1 ∧ wr.ownsRow w.heap.size RcT 5 v cl'.length (flatM cl') ∧ ∀ x ∈ cl', Rd intV w0 x.2.1 x.1.list ∧ Rd byteV w0 x.2.2 x.1.bytes) ∧ Below w.heap.size w wr) (fun _ y _ => 12 - (intOf y).toNat)
  case atStart => exact ⟨0, rfl, Nat.zero_le _, by omega, Lib.hid ⟨[], by rw [List.take_zero]; rfl, World.ownsRow_nil _ _ _ _, fun x hx => by cases hx⟩, Below.refl _ _⟩
  case round =>
    obtain ⟨k, rfl, hk, hk12, hq, hbr⟩ := hrel
    by_cases hkn : k < n ∧ k < 12
    · have hdec : decide ((k : Int) < (n : Int)) = true := by simpa using hkn.1
      have hdec2 : decide ((k : Int) < 12) = true := decide_eq_true (by omega)
      have hkw : IntKind.i64.wrap ((k : Int) + 1) = (k : Int) + 1 := IntWalk.i64_in _ (by omega)
      obtain ⟨gb, off, rfl, hgb, hcc⟩ := hcells (by omega)
      obtain ⟨x, hx⟩ : ∃ x, cl[k]? = some x := ⟨_, List.getElem?_eq_getElem (by rw [HN.out]; omega)⟩
      have hcx : cs[k]? = some x.1 := by rw [← HCL.out, List.getElem?_map, hx]; rfl
      obtain ⟨c0, c1, c2, c3, c4⟩ := hcc k x hx
      have hfx := HRD.out x (List.mem_of_getElem? hx)
      have htk := take_snoc hcx
      obtain ⟨c, lv, bv⟩ := x
      dsimp only at c0 c1 c2 c3 c4 hfx htk
      obtain ⟨hLV, hBV⟩ := hfx
      obtain ⟨lo, lc, rfl, hlc, -, -, -⟩ := id hLV
      obtain ⟨bo, bc, rfl, hbc, -, -, -⟩ := id hBV
      obtain ⟨ln, hln⟩ : ∃ z, c.list.length = z := ⟨_, rfl⟩
      obtain ⟨bn, hbn⟩ : ∃ z, c.bytes.length = z := ⟨_, rfl⟩
      have HLN := Lib.hid hln
      have HBN := Lib.hid hbn
      rw [hln] at hLV c3 hlc
      rw [hbn] at hBV c4 hbc
      obtain ⟨ck, hck⟩ : ∃ z : Int, c.kind = z := ⟨_, rfl⟩
      obtain ⟨cn, hcn⟩ : ∃ z : Int, c.n = z := ⟨_, rfl⟩
      obtain ⟨ca, hca⟩ : ∃ z : Int, c.at_ = z := ⟨_, rfl⟩
      rw [hck] at c0
      rw [hcn] at c1
      rw [hca] at c2
      have e0 := (hbr.cell (p := ⟨gb, off + k * 5, none⟩) hgb).trans c0
      have e1 := (hbr.cell (p := ⟨gb, off + k * 5 + 1, none⟩) hgb).trans c1
      have e2 := (hbr.cell (p := ⟨gb, off + k * 5 + 2, none⟩) hgb).trans c2
      have e3 := (hbr.cell (p := ⟨gb, off + k * 5 + 3, none⟩) hgb).trans c3
      have e4 := (hbr.cell (p := ⟨gb, off + k * 5 + 4, none⟩) hgb).trans c4
      obtain ⟨cl', hcl', hownC, hfl'⟩ := hq.out
      have hcll : cl'.length = k := by
        have h := congrArg List.length hcl'
        rw [List.length_map, List.length_map, List.length_take] at h
        have h2 : cs.length = n := by rw [← HCL.out, List.length_map, HN.out]
        omega
      have HCL2 := Lib.hid hcl'
      have HTK := Lib.hid htk
      have HOC := Lib.hid hownC
      have HFL := Lib.hid hfl'
      have HLV := Lib.hid hLV
      have HBV := Lib.hid hBV
      have HCK := Lib.hid hck
      have HCN := Lib.hid hcn
      have HCA := Lib.hid hca
      clear hx hcx htk hLV hBV hln hbn hck hcn hca hq hcl' hownC hfl' c0 c1 c2 c3 c4 hcc
      go_upto_region 6 with fail
      have hX5 : Below wr.heap.size wr (wr.alloc (.cells #[.int .i64 ck, .int .i64 cn, .int .i64 ca, .slice lo ln lc, .slice bo bn bc] RcT)) := (Below.refl _ _).alloc (Nat.le_refl _) _
      have hk5 := Blk.made (T := RcT) (cs := #[.int .i64 ck, .int .i64 cn, .int .i64 ca, .slice lo ln lc, .slice bo bn bc]) wr
      obtain ⟨W5, hW5⟩ : ∃ W, wr.alloc (.cells #[.int .i64 ck, .int .i64 cn, .int .i64 ca, .slice lo ln lc, .slice bo bn bc] RcT) = W := ⟨_, rfl⟩
      rw [hW5] at hX5 hk5 ⊢
      obtain ⟨KB, hKB⟩ : ∃ b, wr.heap.size = b := ⟨_, rfl⟩
      have hbr5 := hbr.trans (hX5.mono hbr.size)
      have HOC5 := Lib.hid (own_below HOC.out hX5)
      have hKBw : w.heap.size ≤ KB := by rw [← hKB]; exact hbr.size
      have hap : ∀ v' : Value, wr.ownsRow w.heap.size RcT 5 v' cl'.length (flatM cl') → v'.ownBlock ≠ some KB := fun v' h e => by have := (World.ownsRow.lt h KB e).2; omega
      have HAP := Lib.hid (hap _ HOC.out)
      rw [hKB] at hk5 ⊢
      clear hW5 hKB hX5 HOC e0 e1 e2 e3 e4 hap
      by_cases ha : 20 < ln
      · by_cases hb : 40000 < bn
        · skip
          have da : decide ((20 : Int) < (ln : Int)) = true := by simp; omega
          have db : decide ((40000 : Int) < (bn : Int)) = true := by simp; omega
          have hlc2 : (20 : Int) ≤ (lc : Int) := by omega
          have hbc2 : (40000 : Int) ≤ (bc : Int) := by omega
          have q0 := hk5.c 0 _ rfl
          have q1 := hk5.c 1 _ rfl
          have q2 := hk5.c 2 _ rfl
          have q3 := hk5.c 3 _ rfl
          have q4 := hk5.c 4 _ rfl
          have qf := hk5.fz
          have HK6 := Lib.hid ((hk5.set_ 3 (.slice lo 20 lc) _ rfl).set_ 4 (.slice bo 40000 bc) _ rfl)
          have HB6 := Lib.hid ((hbr5.setCell (p := ⟨KB, 3, none⟩) hKBw (.slice lo 20 lc)).setCell (p := ⟨KB, 4, none⟩) hKBw (.slice bo 40000 bc))
          have HO6 := Lib.hid (own_set_ne (own_set_ne HOC5.out HAP.out 3 (.slice lo 20 lc)) HAP.out 4 (.slice bo 40000 bc))
          clear hk5
          go_upto_region 10 with fail
          obtain ⟨W6, hW6⟩ : ∃ W, ((W5.setCell ⟨KB, 3, none⟩ (.slice lo 20 lc)).setCell ⟨KB, 4, none⟩ (.slice bo 40000 bc)) = W := ⟨_, rfl⟩
          rw [hW6] at HK6 HB6 HO6 ⊢
          have d0 := HK6.out.c 0 _ rfl
          have d1 := HK6.out.c 1 _ rfl
          have d2 := HK6.out.c 2 _ rfl
          have d3 := HK6.out.c 3 _ rfl
          have d4 := HK6.out.c 4 _ rfl
          clear hW6 q0 q1 q2 q3 q4 qf
          go_wp2_with (at_builtin; refine wpList_append_own _ rfl _ _ 22 rfl w.heap.size RcT i0 (.agg #[.int .i64 0, .int .i64 0, .int .i64 0, .slice none 0 0, .slice none 0 0]) 5 72 tsl hi0 hz0 hz1 hz2 rfl (by decide) _ cl'.length _ rfl (HO6.out.alloc _) ⟨W6.heap.size, 0, none⟩ 1 1 [.int .i64 ck, .int .i64 cn, .int .i64 ca, (.slice lo 20 lc), (.slice bo 40000 bc)] rfl rfl ?c1 ?c2 ?c3 ?c4 ?c5 ?_)
          case c1 => have := cells5 W6 RcT (.int .i64 ck) (.int .i64 cn) (.int .i64 ca) (.slice lo 20 lc) (.slice bo 40000 bc); simpa using this
          case c2 => intro u hu; simp at hu; rcases hu with rfl | rfl | rfl | rfl | rfl <;> rfl
          case c3 => unfold maxLen; omega
          case c4 => omega
          case c5 => have := HB6.out.size; simp; omega
          intro v6 w6 hown6 hg6 _
          have hoX := HO6.out.alloc (.cells #[.int .i64 ck, .int .i64 cn, .int .i64 ca, (.slice lo 20 lc), (.slice bo 40000 bc)] RcT)
          have hbX : Below w.heap.size w (W6.alloc (.cells #[.int .i64 ck, .int .i64 cn, .int .i64 ca, (.slice lo 20 lc), (.slice bo 40000 bc)] RcT)) := HB6.out.alloc HB6.out.size _
          have hb6 := hbX.grown hg6 hbX.size (fun k hk => (hoX.lt k hk).1)
          have HCV : Hid (cellsM (few1 c, (.slice lo 20 lc), (.slice bo 40000 bc)) = [.int .i64 ck, .int .i64 cn, .int .i64 ca, (.slice lo 20 lc), (.slice bo 40000 bc)]) := Lib.hid (by unfold cellsM few1; dsimp only; rw [HCK.out, HCN.out, HCA.out])
          have hr1 : Rd intV w0 (.slice lo 20 lc) (few1 c).list := by
            have h := (Rd.cut HLV.out 20 (by omega)).2
            exact h
          have hr2 : Rd byteV w0 (.slice bo 40000 bc) (few1 c).bytes := by
            have h := (Rd.cut HBV.out 40000 (by omega)).2
            exact h
          have HO : Hid (∃ cl' : List (Cmd × Value × Value), cl'.map (·.1) = (cs.take (k + 1)).map few1 ∧ w6.ownsRow w.heap.size RcT 5 v6 cl'.length (flatM cl') ∧ ∀ x ∈ cl', Rd intV w0 x.2.1 x.1.list ∧ Rd byteV w0 x.2.2 x.1.bytes) := Lib.hid ⟨cl' ++ [(few1 c, (.slice lo 20 lc), (.slice bo 40000 bc))], by rw [HTK.out, List.map_append, List.map_append, HCL2.out]; rfl, by rw [flatM_snoc, HCV.out, List.length_append, hcll]; first | exact hown6 | (rw [hcll] at hown6; exact hown6), fun y hy => by
            rcases List.mem_append.1 hy with hy | hy
            · exact HFL.out y hy
            · obtain rfl := List.mem_singleton.1 hy
              exact ⟨hr1, hr2⟩⟩
          clear hown6 hg6 hoX hbX d0 d1 d2 d3 d4 hr1 hr2
          go_wp2_with fail
          exact ⟨⟨k + 1, by simp, by omega, by omega, HO, hb6⟩, by simp only [intOf]; omega⟩
        · skip
          have da : decide ((20 : Int) < (ln : Int)) = true := by simp; omega
          have db : decide ((40000 : Int) < (bn : Int)) = false := by simp; omega
          have hlc2 : (20 : Int) ≤ (lc : Int) := by omega
          have q0 := hk5.c 0 _ rfl
          have q1 := hk5.c 1 _ rfl
          have q2 := hk5.c 2 _ rfl
          have q3 := hk5.c 3 _ rfl
          have q4 := hk5.c 4 _ rfl
          have qf := hk5.fz
          have HK6 := Lib.hid (hk5.set_ 3 (.slice lo 20 lc) _ rfl)
          have HB6 := Lib.hid (hbr5.setCell (p := ⟨KB, 3, none⟩) hKBw (.slice lo 20 lc))
          have HO6 := Lib.hid (own_set_ne HOC5.out HAP.out 3 (.slice lo 20 lc))
          clear hk5
          go_upto_region 10 with fail
          obtain ⟨W6, hW6⟩ : ∃ W, (W5.setCell ⟨KB, 3, none⟩ (.slice lo 20 lc)) = W := ⟨_, rfl⟩
          rw [hW6] at HK6 HB6 HO6 ⊢
          have d0 := HK6.out.c 0 _ rfl
          have d1 := HK6.out.c 1 _ rfl
          have d2 := HK6.out.c 2 _ rfl
          have d3 := HK6.out.c 3 _ rfl
          have d4 := HK6.out.c 4 _ rfl
          clear hW6 q0 q1 q2 q3 q4 qf
          go_wp2_with (at_builtin; refine wpList_append_own _ rfl _ _ 22 rfl w.heap.size RcT i0 (.agg #[.int .i64 0, .int .i64 0, .int .i64 0, .slice none 0 0, .slice none 0 0]) 5 72 tsl hi0 hz0 hz1 hz2 rfl (by decide) _ cl'.length _ rfl (HO6.out.alloc _) ⟨W6.heap.size, 0, none⟩ 1 1 [.int .i64 ck, .int .i64 cn, .int .i64 ca, (.slice lo 20 lc), (.slice bo bn bc)] rfl rfl ?c1 ?c2 ?c3 ?c4 ?c5 ?_)
          case c1 => have := cells5 W6 RcT (.int .i64 ck) (.int .i64 cn) (.int .i64 ca) (.slice lo 20 lc) (.slice bo bn bc); simpa using this
          case c2 => intro u hu; simp at hu; rcases hu with rfl | rfl | rfl | rfl | rfl <;> rfl
          case c3 => unfold maxLen; omega
          case c4 => omega
          case c5 => have := HB6.out.size; simp; omega
          intro v6 w6 hown6 hg6 _
          have hoX := HO6.out.alloc (.cells #[.int .i64 ck, .int .i64 cn, .int .i64 ca, (.slice lo 20 lc), (.slice bo bn bc)] RcT)
          have hbX : Below w.heap.size w (W6.alloc (.cells #[.int .i64 ck, .int .i64 cn, .int .i64 ca, (.slice lo 20 lc), (.slice bo bn bc)] RcT)) := HB6.out.alloc HB6.out.size _
          have hb6 := hbX.grown hg6 hbX.size (fun k hk => (hoX.lt k hk).1)
          have HCV : Hid (cellsM (few1 c, (.slice lo 20 lc), (.slice bo bn bc)) = [.int .i64 ck, .int .i64 cn, .int .i64 ca, (.slice lo 20 lc), (.slice bo bn bc)]) := Lib.hid (by unfold cellsM few1; dsimp only; rw [HCK.out, HCN.out, HCA.out])
          have hr1 : Rd intV w0 (.slice lo 20 lc) (few1 c).list := by
            have h := (Rd.cut HLV.out 20 (by omega)).2
            exact h
          have hr2 : Rd byteV w0 (.slice bo bn bc) (few1 c).bytes := by
            have h : (few1 c).bytes = c.bytes := List.take_of_length_le (by have := HBN.out; omega)
            rw [h]; exact HBV.out
          have HO : Hid (∃ cl' : List (Cmd × Value × Value), cl'.map (·.1) = (cs.take (k + 1)).map few1 ∧ w6.ownsRow w.heap.size RcT 5 v6 cl'.length (flatM cl') ∧ ∀ x ∈ cl', Rd intV w0 x.2.1 x.1.list ∧ Rd byteV w0 x.2.2 x.1.bytes) := Lib.hid ⟨cl' ++ [(few1 c, (.slice lo 20 lc), (.slice bo bn bc))], by rw [HTK.out, List.map_append, List.map_append, HCL2.out]; rfl, by rw [flatM_snoc, HCV.out, List.length_append, hcll]; first | exact hown6 | (rw [hcll] at hown6; exact hown6), fun y hy => by
            rcases List.mem_append.1 hy with hy | hy
            · exact HFL.out y hy
            · obtain rfl := List.mem_singleton.1 hy
              exact ⟨hr1, hr2⟩⟩
          clear hown6 hg6 hoX hbX d0 d1 d2 d3 d4 hr1 hr2
          go_wp2_with fail
          exact ⟨⟨k + 1, by simp, by omega, by omega, HO, hb6⟩, by simp only [intOf]; omega⟩
      · by_cases hb : 40000 < bn
        · skip
          have da : decide ((20 : Int) < (ln : Int)) = false := by simp; omega
          have db : decide ((40000 : Int) < (bn : Int)) = true := by simp; omega
          have hbc2 : (40000 : Int) ≤ (bc : Int) := by omega
          have q0 := hk5.c 0 _ rfl
          have q1 := hk5.c 1 _ rfl
          have q2 := hk5.c 2 _ rfl
          have q3 := hk5.c 3 _ rfl
          have q4 := hk5.c 4 _ rfl
          have qf := hk5.fz
          have HK6 := Lib.hid (hk5.set_ 4 (.slice bo 40000 bc) _ rfl)
          have HB6 := Lib.hid (hbr5.setCell (p := ⟨KB, 4, none⟩) hKBw (.slice bo 40000 bc))
          have HO6 := Lib.hid (own_set_ne HOC5.out HAP.out 4 (.slice bo 40000 bc))
          clear hk5
          go_upto_region 10 with fail
          obtain ⟨W6, hW6⟩ : ∃ W, (W5.setCell ⟨KB, 4, none⟩ (.slice bo 40000 bc)) = W := ⟨_, rfl⟩
          rw [hW6] at HK6 HB6 HO6 ⊢
          have d0 := HK6.out.c 0 _ rfl
          have d1 := HK6.out.c 1 _ rfl
          have d2 := HK6.out.c 2 _ rfl
          have d3 := HK6.out.c 3 _ rfl
          have d4 := HK6.out.c 4 _ rfl
          clear hW6 q0 q1 q2 q3 q4 qf
          go_wp2_with (at_builtin; refine wpList_append_own _ rfl _ _ 22 rfl w.heap.size RcT i0 (.agg #[.int .i64 0, .int .i64 0, .int .i64 0, .slice none 0 0, .slice none 0 0]) 5 72 tsl hi0 hz0 hz1 hz2 rfl (by decide) _ cl'.length _ rfl (HO6.out.alloc _) ⟨W6.heap.size, 0, none⟩ 1 1 [.int .i64 ck, .int .i64 cn, .int .i64 ca, (.slice lo ln lc), (.slice bo 40000 bc)] rfl rfl ?c1 ?c2 ?c3 ?c4 ?c5 ?_)
          case c1 => have := cells5 W6 RcT (.int .i64 ck) (.int .i64 cn) (.int .i64 ca) (.slice lo ln lc) (.slice bo 40000 bc); simpa using this
          case c2 => intro u hu; simp at hu; rcases hu with rfl | rfl | rfl | rfl | rfl <;> rfl
          case c3 => unfold maxLen; omega
          case c4 => omega
          case c5 => have := HB6.out.size; simp; omega
          intro v6 w6 hown6 hg6 _
          have hoX := HO6.out.alloc (.cells #[.int .i64 ck, .int .i64 cn, .int .i64 ca, (.slice lo ln lc), (.slice bo 40000 bc)] RcT)
          have hbX : Below w.heap.size w (W6.alloc (.cells #[.int .i64 ck, .int .i64 cn, .int .i64 ca, (.slice lo ln lc), (.slice bo 40000 bc)] RcT)) := HB6.out.alloc HB6.out.size _
          have hb6 := hbX.grown hg6 hbX.size (fun k hk => (hoX.lt k hk).1)
          have HCV : Hid (cellsM (few1 c, (.slice lo ln lc), (.slice bo 40000 bc)) = [.int .i64 ck, .int .i64 cn, .int .i64 ca, (.slice lo ln lc), (.slice bo 40000 bc)]) := Lib.hid (by unfold cellsM few1; dsimp only; rw [HCK.out, HCN.out, HCA.out])
          have hr1 : Rd intV w0 (.slice lo ln lc) (few1 c).list := by
            have h : (few1 c).list = c.list := List.take_of_length_le (by have := HLN.out; omega)
            rw [h]; exact HLV.out
          have hr2 : Rd byteV w0 (.slice bo 40000 bc) (few1 c).bytes := by
            have h := (Rd.cut HBV.out 40000 (by omega)).2
            exact h
          have HO : Hid (∃ cl' : List (Cmd × Value × Value), cl'.map (·.1) = (cs.take (k + 1)).map few1 ∧ w6.ownsRow w.heap.size RcT 5 v6 cl'.length (flatM cl') ∧ ∀ x ∈ cl', Rd intV w0 x.2.1 x.1.list ∧ Rd byteV w0 x.2.2 x.1.bytes) := Lib.hid ⟨cl' ++ [(few1 c, (.slice lo ln lc), (.slice bo 40000 bc))], by rw [HTK.out, List.map_append, List.map_append, HCL2.out]; rfl, by rw [flatM_snoc, HCV.out, List.length_append, hcll]; first | exact hown6 | (rw [hcll] at hown6; exact hown6), fun y hy => by
            rcases List.mem_append.1 hy with hy | hy
            · exact HFL.out y hy
            · obtain rfl := List.mem_singleton.1 hy
              exact ⟨hr1, hr2⟩⟩
          clear hown6 hg6 hoX hbX d0 d1 d2 d3 d4 hr1 hr2
          go_wp2_with fail
          exact ⟨⟨k + 1, by simp, by omega, by omega, HO, hb6⟩, by simp only [intOf]; omega⟩
        · skip
          have da : decide ((20 : Int) < (ln : Int)) = false := by simp; omega
          have db : decide ((40000 : Int) < (bn : Int)) = false := by simp; omega
          have q0 := hk5.c 0 _ rfl
          have q1 := hk5.c 1 _ rfl
          have q2 := hk5.c 2 _ rfl
          have q3 := hk5.c 3 _ rfl
          have q4 := hk5.c 4 _ rfl
          have qf := hk5.fz
          have HK6 := Lib.hid hk5
          have HB6 := Lib.hid hbr5
          have HO6 := Lib.hid HOC5.out
          clear hk5
          go_upto_region 10 with fail
          obtain ⟨W6, hW6⟩ : ∃ W, W5 = W := ⟨_, rfl⟩
          rw [hW6] at HK6 HB6 HO6 ⊢
          have d0 := HK6.out.c 0 _ rfl
          have d1 := HK6.out.c 1 _ rfl
          have d2 := HK6.out.c 2 _ rfl
          have d3 := HK6.out.c 3 _ rfl
          have d4 := HK6.out.c 4 _ rfl
          clear hW6 q0 q1 q2 q3 q4 qf
          go_wp2_with (at_builtin; refine wpList_append_own _ rfl _ _ 22 rfl w.heap.size RcT i0 (.agg #[.int .i64 0, .int .i64 0, .int .i64 0, .slice none 0 0, .slice none 0 0]) 5 72 tsl hi0 hz0 hz1 hz2 rfl (by decide) _ cl'.length _ rfl (HO6.out.alloc _) ⟨W6.heap.size, 0, none⟩ 1 1 [.int .i64 ck, .int .i64 cn, .int .i64 ca, (.slice lo ln lc), (.slice bo bn bc)] rfl rfl ?c1 ?c2 ?c3 ?c4 ?c5 ?_)
          case c1 => have := cells5 W6 RcT (.int .i64 ck) (.int .i64 cn) (.int .i64 ca) (.slice lo ln lc) (.slice bo bn bc); simpa using this
          case c2 => intro u hu; simp at hu; rcases hu with rfl | rfl | rfl | rfl | rfl <;> rfl
          case c3 => unfold maxLen; omega
          case c4 => omega
          case c5 => have := HB6.out.size; simp; omega
          intro v6 w6 hown6 hg6 _
          have hoX := HO6.out.alloc (.cells #[.int .i64 ck, .int .i64 cn, .int .i64 ca, (.slice lo ln lc), (.slice bo bn bc)] RcT)
          have hbX : Below w.heap.size w (W6.alloc (.cells #[.int .i64 ck, .int .i64 cn, .int .i64 ca, (.slice lo ln lc), (.slice bo bn bc)] RcT)) := HB6.out.alloc HB6.out.size _
          have hb6 := hbX.grown hg6 hbX.size (fun k hk => (hoX.lt k hk).1)
          have HCV : Hid (cellsM (few1 c, (.slice lo ln lc), (.slice bo bn bc)) = [.int .i64 ck, .int .i64 cn, .int .i64 ca, (.slice lo ln lc), (.slice bo bn bc)]) := Lib.hid (by unfold cellsM few1; dsimp only; rw [HCK.out, HCN.out, HCA.out])
          have hr1 : Rd intV w0 (.slice lo ln lc) (few1 c).list := by
            have h : (few1 c).list = c.list := List.take_of_length_le (by have := HLN.out; omega)
            rw [h]; exact HLV.out
          have hr2 : Rd byteV w0 (.slice bo bn bc) (few1 c).bytes := by
            have h : (few1 c).bytes = c.bytes := List.take_of_length_le (by have := HBN.out; omega)
            rw [h]; exact HBV.out
          have HO : Hid (∃ cl' : List (Cmd × Value × Value), cl'.map (·.1) = (cs.take (k + 1)).map few1 ∧ w6.ownsRow w.heap.size RcT 5 v6 cl'.length (flatM cl') ∧ ∀ x ∈ cl', Rd intV w0 x.2.1 x.1.list ∧ Rd byteV w0 x.2.2 x.1.bytes) := Lib.hid ⟨cl' ++ [(few1 c, (.slice lo ln lc), (.slice bo bn bc))], by rw [HTK.out, List.map_append, List.map_append, HCL2.out]; rfl, by rw [flatM_snoc, HCV.out, List.length_append, hcll]; first | exact hown6 | (rw [hcll] at hown6; exact hown6), fun y hy => by
            rcases List.mem_append.1 hy with hy | hy
            · exact HFL.out y hy
            · obtain rfl := List.mem_singleton.1 hy
              exact ⟨hr1, hr2⟩⟩
          clear hown6 hg6 hoX hbX d0 d1 d2 d3 d4 hr1 hr2
          go_wp2_with fail
          exact ⟨⟨k + 1, by simp, by omega, by omega, HO, hb6⟩, by simp only [intOf]; omega⟩
    · have hend : k = min n 12 := by omega
      obtain ⟨cl', h1, h2, h3⟩ := hq.out
      have hall : (cs.take k).map few1 = fewR cs := by
        unfold fewR
        congr 1
        have h2 : cs.length = n := by rw [← HCL.out, List.length_map, HN.out]
        rcases Nat.lt_or_ge n 12 with h | h
        · rw [List.take_of_length_le (by omega), List.take_of_length_le (by omega)]
        · rw [show k = 12 by omega]
      rw [hall] at h1
      have HR := Lib.hid (show FewAt w0 w.heap.size wr _ (fewR cs) from ⟨cl', h1, h2, h3⟩)
      clear hq h1 h2 h3 hall
      have hdec : (decide ((k : Int) < (n : Int)) && decide ((k : Int) < 12)) = false := by simp; omega
      by_cases hkn2 : k < n
      · have d1 : decide ((k : Int) < (n : Int)) = true := by simpa using hkn2
        have d2 : decide ((k : Int) < 12) = false := by simp; omega
        go_wp2_with fail
        go_ret
        exact ⟨hbr, _, rfl, HR.out⟩
      · have d1 : decide ((k : Int) < (n : Int)) = false := by simpa using hkn2
        go_wp2_with fail
        go_ret
        exact ⟨hbr, _, rfl, HR.out⟩
end Sc
end Go.Proofs.YtaaknnmnkgnbjaaDoor
