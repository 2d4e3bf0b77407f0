/- Chapter 08: the middle of Lay: all that stays, and what each step makes of it. No walk. -/
import Derived.Test.YtojblndlchcjeaaHpLv
set_option linter.unusedVariables false
namespace Go.Proofs.Ytojblndlchcjeaa
open Go.RowKit
open Go.Maps
namespace Hp
open Bs Sm
abbrev I64T : Nat := 2
abbrev FMT : Nat := 107
abbrev FmM (fb n : Nat) (f : Bts → Int) (g : Bts → Bool) (w : World) : Prop := MapS Try.prog 9 I64T .i64 fb n f g w
theorem zero_i64 (w : World) : (zeroValue I64T).run Try.prog w = .ok (.int .i64 0) w := by kernel_rfl
theorem u64_wf (E : Nat) (h : E ≤ 1000000) : (Lit.int .u64 (E : Int)).wf = true := by
  have h1 : (IntKind.u64.min ≤ (E : Int)) := by show (0 : Int) ≤ _; omega
  have h2 : ((E : Int) ≤ IntKind.u64.max) := by show _ ≤ (18446744073709551615 : Int); omega
  simp [Lit.wf, h1, h2]
theorem i64_wf (E : Nat) (h : E ≤ 1000000) : (Lit.int .i64 (E : Int)).wf = true := by
  have h1 : (IntKind.i64.min ≤ (E : Int)) := by show (-9223372036854775808 : Int) ≤ _; omega
  have h2 : ((E : Int) ≤ IntKind.i64.max) := by show _ ≤ (9223372036854775807 : Int); omega
  simp [Lit.wf, h1]; omega
theorem grown_trans {w w1 w2 : World} {r : Option Nat} (h : w.grownBy w1 r) (g : w1.grownBy w2 r) : w.grownBy w2 r :=
  ⟨g.os.trans h.os, g.tape.trans h.tape, g.output.trans h.output, Nat.le_trans h.size g.size, fun b hb hne => (g.block b (Nat.lt_of_lt_of_le hb h.size) hne).trans (h.block b hb hne)⟩
structure KOk (B sb bl nb fb : Nat) (K : List Th) : Prop where
  tt : noT TT K = true
  ot : noT OT K = true
  bu : noT BxU K = true
  mp : ∀ x ∈ K, x.ty = none → x.ft ≠ some sb ∧ x.ft ≠ some fb
  ge : B ≤ bl ∧ B ≤ sb ∧ B ≤ fb ∧ sb ≠ fb
structure Mid (B T sb bl nb fb : Nat) (w0 : World) (K : List Th) (L : List Ob) (LS : List Nat) (ns : Nat) (fs : Bts → Int) (gs : Bts → Bool) (nf : Nat) (ff : Bts → Int) (gf : Bts → Bool) (lv : Value) (vl : List OV) (lsv : Value) (w : World) : Prop where
  st : Sta B w0 w K
  tw : Tw B T sb w lv vl 4
  eq : vl.map (·.1) = L
  bl : Blk BxU bl #[lsv] w
  ls : OwnU B w lsv LS
  ap : LApt vl lsv
  nb : ∀ x ∈ K, x.ty = some UT → ∀ b, x.ft = some b → lsv.ownBlock ≠ some b
  sy : SymM sb ns fs gs w
  fm : FmM fb nf ff gf w
section
variable {B T sb bl nb fb : Nat} {w0 w w' : World} {K : List Th} {L : List Ob} {LS : List Nat} {ns : Nat} {fs : Bts → Int} {gs : Bts → Bool} {nf : Nat} {ff : Bts → Int} {gf : Bts → Bool} {lv : Value} {vl : List OV} {lsv : Value}
theorem Mid.sz (h : Mid B T sb bl nb fb w0 K L LS ns fs gs nf ff gf lv vl lsv w) : B ≤ w.heap.size := Nat.le_trans h.st.2.1 h.st.1.size
theorem Mid.bel (h : Mid B T sb bl nb fb w0 K L LS ns fs gs nf ff gf lv vl lsv w) (hb : Below w.heap.size w w') : Mid B T sb bl nb fb w0 K L LS ns fs gs nf ff gf lv vl lsv w' :=
  ⟨h.st.bel_ hb, h.tw.bel hb, h.eq, h.bl.below hb h.bl.lt, h.ls.bel hb, h.ap, h.nb, MapOf.bel h.sy hb, MapOf.bel h.fm hb⟩
def MidList (B T sb bl nb fb : Nat) (w0 : World) (K : List Th) (L : List Ob) (LS : List Nat) (ns : Nat) (fs : Bts → Int) (gs : Bts → Bool) (nf : Nat) (ff : Bts → Int) (gf : Bts → Bool) (a : Nat) (e : Ending) (w' : World) : Prop :=
  ∃ lv' vl' lsv', e = .returned (.int .u64 ((2 * a : Nat) : Int)) ∧ Mid B T sb bl nb fb w0 K (L ++ [rw4 (listO a [])]) (LS ++ [2 * a]) ns fs gs nf ff gf lv' vl' lsv' w'
theorem Mid.list (h : Mid B T sb bl nb fb w0 K L LS ns fs gs nf ff gf lv vl lsv w) (ok : KOk B sb bl nb fb K) {bt a : Nat} (hbt : Blk PTT bt #[.pointer (some ⟨T, 0, none⟩)] w)
    (hc : Chain 2 L ∧ endL 2 L = a) (hok : ∀ o ∈ L, okB o.hd = true) (ha : a ≤ 100000) (hl : L.length ≤ 100000) (hLS : LS.length ≤ 100000) :
    Calls Try.prog 41 #[.pointer (some ⟨bt, 0, none⟩), .pointer (some ⟨bl, 0, none⟩)] w (MidList B T sb bl nb fb w0 K L LS ns fs gs nf ff gf a) := by
  refine (list_L h.tw h.eq hbt h.bl h.ls h.ap ok.ge.1 hc hok ha hl hLS h.sz).mono ?_
  rintro e w' ⟨lv', vl', lsv', rfl, h1, h2, h3, h4, h5, h6, h7⟩
  have hm : ∀ {kt et : TypeId} {q : IntKind} {b n : Nat} {f : Bts → Int} {g : Bts → Bool}, MapS Try.prog kt et q b n f g w → MapS Try.prog kt et q b n f g w' := fun {kt et q b n f g} hm => h6.map hm fun e => by
    rcases e with e | e
    · exact blk_ne_map h.bl hm e.symm
    · rcases own_ne_map h.ls hm with e' | e'
      · rw [e'] at e; cases e
      · exact e' e
  refine ⟨lv', vl', lsv', rfl, ⟨h.st.lists h6 h.bl h.ls ok.tt ok.ot ok.bu h.nb, h1, h2, h3, h4, h5, fun x hx hty b hb e => ?_, hm h.sy, hm h.fm⟩⟩
  rcases h7 b e with e | e
  · exact h.nb x hx hty b hb e
  · have := h.st.lt hx b hb; omega
def MidSym (B T sb bl nb fb : Nat) (w0 : World) (K : List Th) (L : List Ob) (LS : List Nat) (ns : Nat) (fs : Bts → Int) (gs : Bts → Bool) (nf : Nat) (ff : Bts → Int) (gf : Bts → Bool) (lsv : Value) (a : Nat) (s : Bts) (e : Ending) (w' : World) : Prop :=
  ∃ lv' vl', e = .returned (.int .u64 ((2 * a : Nat) : Int)) ∧ Mid B T sb bl nb fb w0 K (L ++ [rw4 (symO a s)]) LS (ns + 1) (fun x => if x = s then ((2 * a : Nat) : Int) else fs x) (fun x => if x = s then true else gs x) nf ff gf lv' vl' lsv w'
theorem Mid.sym (h : Mid B T sb bl nb fb w0 K L LS ns fs gs nf ff gf lv vl lsv w) (ok : KOk B sb bl nb fb K) {a : Nat} {s : Bts} (hf : fs s = 0) (hn : ns ≤ 100000)
    (hc : Chain 2 L ∧ endL 2 L = a) (hok : ∀ o ∈ L, okB o.hd = true) (ha : a ≤ 100000) (hl : L.length ≤ 100000) (hs : s.length ≤ 100000) :
    Calls Try.prog 43 #[.pointer (some ⟨T, 0, none⟩), .string ⟨s.toArray⟩] w (MidSym B T sb bl nb fb w0 K L LS ns fs gs nf ff gf lsv a s) := by
  refine (sym_L h.tw h.eq h.sy hf ok.ge.2.1 hn hc hok ha hl hs h.sz).mono ?_
  rintro e w' ⟨lv', vl', rfl, h1, h2, h3, h4, h5⟩
  refine ⟨lv', vl', rfl, ⟨h.st.tf h5 ok.tt ok.ot fun x hx b hb e => ?_, h1, h2, h5.blk h.bl (by decide) (by decide) (blk_ne_map h.bl h.sy), h5.own h.ls tyne.2.1 tyne.2.2.1 fun b hb e => ?_, h3 lsv h.ap, h.nb, h4, h5.map h.fm fun e => ok.ge.2.2.2 e.symm⟩⟩
  · subst e
    obtain ⟨o, ho, -, h6⟩ := x.has w (h.st.2.2 x hx) b hb
    obtain ⟨D, ⟨es, c, h7, -⟩, -⟩ := h.sy
    rw [h7] at ho
    cases ho
    exact (ok.mp x hx (h6 fun cs T z e => by cases e)).1 hb
  · subst e
    rcases own_ne_map h.ls h.sy with e' | e'
    · rw [e'] at hb; cases hb
    · exact e' hb
/-- A format is laid. -/
theorem Mid.put (h : Mid B T sb bl nb fb w0 K L LS ns fs gs nf ff gf lv vl lsv w) (ok : KOk B sb bl nb fb K) (s : Bts) (hs : s.length ≤ 100000) (a : Nat) (ha : a ≤ 1000000) (hn : nf ≤ 100000) :
    ∃ w', (Instr.mapUpdate FMT (.map (some fb)) (.string ⟨s.toArray⟩) (.int .i64 (a : Int))).run Try.prog w = .ok () w' ∧ Mid B T sb bl nb fb w0 K L LS ns fs gs (nf + 1) (fun x => if x = s then (a : Int) else ff x) (fun x => if x = s then true else gf x) lv vl lsv w' := by
  obtain ⟨w', hr, hm, hg⟩ := MapS.put (mt := FMT) h.fm (by kernel_rfl) (by kernel_rfl) (by kernel_rfl) (by unfold maxLen; omega) s (by unfold maxLen; omega) (a : Int) (i64_wf a ha)
  exact ⟨w', hr, ⟨h.st.mapped h.fm hg ok.ge.2.2.1 (fun x hx e => (ok.mp x hx e).2), h.tw.mapped h.fm hg, h.eq, blk_mapped h.bl h.fm hg, own_mapped h.ls h.fm hg, h.ap, h.nb, h.sy.kept hg (fun e => ok.ge.2.2.2 (by cases e; rfl)), hm⟩⟩
theorem Mid.fmt (h : Mid B T sb bl nb fb w0 K L LS ns fs gs nf ff gf lv vl lsv w) (s : Bts) (hs : s.length ≤ 100000) : (Instr.lookup FMT (.map (some fb)) (.string ⟨s.toArray⟩) false).run Try.prog w = .ok (.int .i64 (ff s)) w :=
  MapS.look (mt := FMT) h.fm (by kernel_rfl) (by kernel_rfl) (by kernel_rfl) (zero_i64 w) s (by unfold maxLen; omega)
/-- A store into an object's words, or its class. -/
theorem Mid.tf0 (h : Mid B T sb bl nb fb w0 K L LS ns fs gs nf ff gf lv vl lsv w) (ok : KOk B sb bl nb fb K) (hf : Tf B (fun _ => False) w w') {lv' : Value} {vl' : List OV} {L' : List Ob} (ht : Tw B T sb w' lv' vl' 4) (he : vl'.map (·.1) = L') (hap : LApt vl' lsv) :
    Mid B T sb bl nb fb w0 K L' LS ns fs gs nf ff gf lv' vl' lsv w' :=
  ⟨h.st.tf0 hf ok.tt ok.ot, ht, he, hf.blk h.bl (by decide) (by decide) (fun h => h), hf.own h.ls tyne.2.1 tyne.2.2.1 (fun _ _ h => h), hap, h.nb, hf.map h.sy (fun h => h), hf.map h.fm (fun h => h)⟩
theorem Mid.setW {g m lc k : Nat} {x : OV} {wv : Value} {ws : List Nat} (h : Mid B T sb bl nb fb w0 K L LS ns fs gs nf ff gf (.slice (some ⟨g, 0, none⟩) m lc) vl lsv w) (ok : KOk B sb bl nb fb K) (hx : vl[k]? = some x) (hw : OwnU B w wv ws) (ha : ∀ b, wv.ownBlock = some b → lsv.ownBlock ≠ some b) :
    Mid B T sb bl nb fb w0 K (L.set k { x.1 with words := ws }) LS ns fs gs nf ff gf (.slice (some ⟨g, 0, none⟩) m lc) (vl.set k ({ x.1 with words := ws }, wv, x.2.2)) lsv (w.setCell ⟨g, k * 8 + 6, none⟩ wv) := by
  obtain ⟨h1, h2⟩ := h.tw.setW hx hw
  refine h.tf0 ok h2 h1 ?_ fun y hy b hb => ?_
  · rw [List.map_set, h.eq]
  · rcases List.mem_or_eq_of_mem_set hy with hy | rfl
    · exact h.ap y hy b hb
    · exact ha b hb
theorem Mid.setK {g m lc k : Nat} {x : OV} (h : Mid B T sb bl nb fb w0 K L LS ns fs gs nf ff gf (.slice (some ⟨g, 0, none⟩) m lc) vl lsv w) (ok : KOk B sb bl nb fb K) (hx : vl[k]? = some x) (c : Nat) :
    Mid B T sb bl nb fb w0 K (L.set k { x.1 with hd := { x.1.hd with cls := c } }) LS ns fs gs nf ff gf (.slice (some ⟨g, 0, none⟩) m lc) (vl.set k ({ x.1 with hd := { x.1.hd with cls := c } }, x.2)) lsv (w.setCell ⟨g, k * 8 + 1, none⟩ (.int .u64 (c : Int))) := by
  obtain ⟨h1, h2⟩ := h.tw.setK hx c
  refine h.tf0 ok h2 h1 ?_ fun y hy b hb => ?_
  · rw [List.map_set, h.eq]
  · rcases List.mem_or_eq_of_mem_set hy with hy | rfl
    · exact h.ap y hy b hb
    · exact h.ap x (List.mem_of_getElem? hx) b hb
/-- An object's place. -/
theorem Mid.at_ (h : Mid B T sb bl nb fb w0 K L LS ns fs gs nf ff gf lv vl lsv w) {g m lc k wd : Nat} {o : Ob} (hlv : lv = .slice (some ⟨g, 0, none⟩) m lc) (hc : Chain 2 L) (hE : endL 2 L ≤ 100000) (hk : L[k]? = some o) (hw : 2 * o.at_ = wd) :
    Calls Try.prog 44 #[.pointer (some ⟨T, 0, none⟩), .int .u64 (wd : Int)] w (Back (.pointer (some ⟨g, k * 8, none⟩)) w) := by
  obtain ⟨x, hx, rfl⟩ := vl_at h.eq hk
  subst hlv
  have he := h.eq
  subst he
  exact at_any' B T sb 4 g m lc k wd vl x w h.tw hc hE hx (by omega)
end
/-! ### The formats, as they are laid first -/
def fm0 : Bts → Int := fun x => if x = [67, 111, 110, 116, 101, 120, 116] then 1 else if x = [65, 114, 114, 97, 121] then 1 else if x = [83, 121, 109, 98, 111, 108] then 2 else if x = [83, 116, 114, 105, 110, 103] then 2 else if x = [77, 101, 116, 97, 99, 108, 97, 115, 115] then 20 else if x = [67, 108, 97, 115, 115] then 20 else 0
set_option maxRecDepth 1000000 in
theorem fm0_ok (n : Nat) (hn : n ≤ 6) (sup flds : List Int) : FmtOk n sup flds 0 fm0 := by
  have h : ∀ n : Fin 7, ∀ j : Fin 22, j.val < NN n.val → fm0 (nmL n.val j.val) = ((fmt0 j.val : Nat) : Int) := by decide +kernel
  intro j hj
  rw [if_neg (Nat.not_lt_zero _)]
  exact h ⟨n, by omega⟩ ⟨j, by unfold NN at hj; omega⟩ hj
abbrev FmI (fb : Nat) (s : Bts) (a : Int) (w w' : World) : Prop := (Instr.mapUpdate FMT (.map (some fb)) (.string ⟨s.toArray⟩) (.int .i64 a)).run Try.prog w = .ok () w'
theorem fm_lit (fb : Nat) (w : World) (h : FmM fb 0 (fun _ => 0) (fun _ => false) w) : ∃ w1 w2 w3 w4 w5 w6 G, FmI fb [67, 108, 97, 115, 115] 20 w w1 ∧ FmI fb [77, 101, 116, 97, 99, 108, 97, 115, 115] 20 w1 w2 ∧ FmI fb [83, 116, 114, 105, 110, 103] 2 w2 w3 ∧ FmI fb [83, 121, 109, 98, 111, 108] 2 w3 w4 ∧ FmI fb [65, 114, 114, 97, 121] 1 w4 w5 ∧ FmI fb [67, 111, 110, 116, 101, 120, 116] 1 w5 w6 ∧
    FmM fb 6 fm0 G w6 ∧ w.grownBy w6 (some fb) := by
  have P : ∀ {m : Nat} {f : Bts → Int} {g : Bts → Bool} {v : World}, FmM fb m f g v → m ≤ 100 → ∀ (s : Bts) (a : Nat), s.length ≤ 100 → a ≤ 100 → ∃ v', FmI fb s (a : Int) v v' ∧ FmM fb (m + 1) (fun x => if x = s then (a : Int) else f x) (fun x => if x = s then true else g x) v' ∧ v.grownBy v' (some fb) := fun {m f g v} hv hm s a hs ha =>
    MapS.put (mt := FMT) hv (by kernel_rfl) (by kernel_rfl) (by kernel_rfl) (by unfold maxLen; omega) s (by unfold maxLen; omega) (a : Int) (i64_wf a (by omega))
  obtain ⟨w1, r1, h1, g1⟩ := P h (by omega) [67, 108, 97, 115, 115] 20 (by decide) (by omega)
  obtain ⟨w2, r2, h2, g2⟩ := P h1 (by omega) [77, 101, 116, 97, 99, 108, 97, 115, 115] 20 (by decide) (by omega)
  obtain ⟨w3, r3, h3, g3⟩ := P h2 (by omega) [83, 116, 114, 105, 110, 103] 2 (by decide) (by omega)
  obtain ⟨w4, r4, h4, g4⟩ := P h3 (by omega) [83, 121, 109, 98, 111, 108] 2 (by decide) (by omega)
  obtain ⟨w5, r5, h5, g5⟩ := P h4 (by omega) [65, 114, 114, 97, 121] 1 (by decide) (by omega)
  obtain ⟨w6, r6, h6, g6⟩ := P h5 (by omega) [67, 111, 110, 116, 101, 120, 116] 1 (by decide) (by omega)
  exact ⟨w1, w2, w3, w4, w5, w6, _, r1, r2, r3, r4, r5, r6, h6, grown_trans (grown_trans (grown_trans (grown_trans (grown_trans g1 g2) g3) g4) g5) g6⟩
theorem stC_stD (n : Nat) : stC n (NN n) = stD n 0 := by unfold stC stD; rw [List.range_zero, List.map_nil, List.append_nil]
theorem stD_succ (n k : Nat) : stD n k ++ [⟨nilAt n k, hdL 4 0 0, [], []⟩] = stD n (k + 1) := by unfold stD; rw [List.range_succ (n := k), List.map_append, ← List.append_assoc]; rfl
/-! ### What the filled maps answer -/
theorem fn_val {n N : Nat} (hn : n ≤ 6) (hN : N = NN n) (val : Nat → Int) (j : Nat) (hj : j < N) : fnF (nmL n) val N (nmL n j) = val j :=
  fnF_at (nm := nmL n) (N := N) (fun a b ha hb e => (nm_facts n hn a (by rw [← hN]; exact ha)).2.2 b (by rw [← hN]; exact hb) e) N j (Nat.le_refl _) hj
theorem root_N {B bc bn cm n N gn nc : Nat} {v : World} (hn : n ≤ 6) (hN : N = NN n) (h1 : Blk BxM bc #[.map (some cm)] v) (h2 : Blk BxS bn #[.slice (some ⟨gn, 0, none⟩) N nc] v) (h3 : v.ownsRow B ST1 1 (.slice (some ⟨gn, 0, none⟩) N nc) N ((namesL n).map strV))
    (h4 : SymM cm N (fnF (nmL n) (fun i => ((2 * clsAt i : Nat) : Int)) N) (gnF (nmL n) N) v) (i : Nat) (h5 : 5 ≤ i) (h6 : i ≤ 20) :
    Calls Try.prog 40 #[.int .i64 (i : Int), .pointer (some ⟨bc, 0, none⟩), .pointer (some ⟨bn, 0, none⟩)] v (Back (.int .u64 ((2 * clsAt (i - 5) : Nat) : Int)) v) := by
  have hj : i - 5 < N := by rw [hN]; unfold NN; omega
  have hv := fn_val hn hN (fun i => ((2 * clsAt i : Nat) : Int)) (i - 5) hj
  generalize fnF (nmL n) (fun i => ((2 * clsAt i : Nat) : Int)) N = f at h4 hv
  generalize gnF (nmL n) N = g at h4
  have hl : N = (namesL n).length := by rw [names_len, hN]
  have hs : (namesL n)[i - 5]? = some (nmL n (i - 5)) := nm_get (by rw [← hN]; exact hj)
  have hsl : (nmL n (i - 5)).length ≤ 100000 := by have := nm_len hn (i - 5); omega
  generalize nmL n (i - 5) = s at hs hsl hv
  generalize namesL n = nm at h3 hl hs
  subst hl
  exact root_any B bc bn cm nm.length i (2 * clsAt (i - 5)) gn nc f g nm s v h1 h2 h3 h4 ⟨h5, by omega⟩ hs hsl hv
theorem look_N {cm n N : Nat} {v : World} (hn : n ≤ 6) (hN : N = NN n) (val : Nat → Int) (h4 : SymM cm N (fnF (nmL n) val N) (gnF (nmL n) N) v) (j : Nat) (hj : j < N) :
    (Instr.lookup MT (.map (some cm)) (.string ⟨(nmL n j).toArray⟩) false).run Try.prog v = .ok (.int .u64 (val j)) v := by
  have hv := fn_val hn hN val j hj
  have hsl : (nmL n j).length ≤ maxLen := by have := nm_len hn j; unfold maxLen; omega
  generalize fnF (nmL n) val N = f at h4 hv
  generalize gnF (nmL n) N = g at h4
  have h1 := MapS.look (mt := MT) h4 (by kernel_rfl) (by kernel_rfl) (by kernel_rfl) (zero_u64 v) (nmL n j) hsl
  rw [hv] at h1
  exact h1
/-! ### Names that are looked at -/
set_option maxRecDepth 1000000 in
theorem nm_sym {n k : Nat} (hn : n ≤ 6) (hk : k < NN n) : (nmL n k == [83, 121, 109, 98, 111, 108]) = decide (k = 8) ∧ (nmL n k == [79, 98, 106, 101, 99, 116]) = decide (k = 0) ∧ (nmL n k != [79, 98, 106, 101, 99, 116]) = decide (k ≠ 0) := by
  have h : ∀ n : Fin 7, ∀ k : Fin 22, k.val < NN n.val → (nmL n.val k.val == [83, 121, 109, 98, 111, 108]) = decide (k.val = 8) ∧ (nmL n.val k.val == [79, 98, 106, 101, 99, 116]) = decide (k.val = 0) ∧ (nmL n.val k.val != [79, 98, 106, 101, 99, 116]) = decide (k.val ≠ 0) := by decide +kernel
  exact h ⟨n, by omega⟩ ⟨k, by unfold NN at hk; omega⟩ hk
set_option maxRecDepth 1000000 in
theorem nm_7 {n : Nat} (hn : n ≤ 6) : nmL n 7 = [83, 116, 114, 105, 110, 103] := by
  have h : ∀ n : Fin 7, nmL n.val 7 = [83, 116, 114, 105, 110, 103] := by decide +kernel
  exact h ⟨n, by omega⟩
theorem upL_cases (sup : List Int) (k : Nat) (h : k < 16) : upL sup k = if k = 8 then 7 else 0 := by
  unfold upL
  rw [if_neg (by omega)]
section
variable {B T sb bl nb fb : Nat} {w0 w w' : World} {K : List Th} {L : List Ob} {LS : List Nat} {ns : Nat} {fs : Bts → Int} {gs : Bts → Bool} {nf : Nat} {ff : Bts → Int} {gf : Bts → Bool} {lv : Value} {vl : List OV} {lsv : Value}
theorem KOk.row (ok : KOk B sb bl nb fb K) {B' n : Nat} {v : Value} {xs : List Value} : KOk B sb bl nb fb (thR B' UT n v xs :: K) :=
  ⟨by simp only [noT, List.all_cons]; exact ok.tt, by simp only [noT, List.all_cons]; exact ok.ot, by simp only [noT, List.all_cons]; exact ok.bu, fun x hx h => by
    rcases List.mem_cons.1 hx with rfl | hx
    · cases h
    · exact ok.mp x hx h, ok.ge⟩
/-- A new row of words. -/
theorem Mid.row (h : Mid B T sb bl nb fb w0 K L LS ns fs gs nf ff gf lv vl lsv w) (ws : List Nat) (hl : ws.length ≤ 1000) :
    Mid B T sb bl nb fb w0 (thR B UT ws.length (.slice (some ⟨w.heap.size, 0, none⟩) ws.length ws.length) (ws.map uV) :: K) L LS ns fs gs nf ff gf lv vl lsv (w.alloc (.cells (rowV uV ws) UT)) := by
  have hb := alloc_bel w (.cells (rowV uV ws) UT)
  have h1 := h.bel hb
  have hq : Blk UT w.heap.size (rowV uV ws) (w.alloc (.cells (rowV uV ws) UT)) := Blk.made w
  have ho := own_blk hq h.sz (by unfold maxLen; omega)
  refine ⟨h1.st.cons (t := thR B UT ws.length (.slice (some ⟨w.heap.size, 0, none⟩) ws.length ws.length) (ws.map uV)) ho, h1.tw, h1.eq, h1.bl, h1.ls, h1.ap, fun x hx hty b hb e => ?_, h1.sy, h1.fm⟩
  rcases List.mem_cons.1 hx with rfl | hx
  · have hb : some w.heap.size = some b := hb
    cases hb
    have := (World.ownsRow.lt h.ls _ e).2
    omega
  · exact h.nb x hx hty b hb e
theorem Mid.tl {t : Th} (h : Mid B T sb bl nb fb w0 (t :: K) L LS ns fs gs nf ff gf lv vl lsv w) : Mid B T sb bl nb fb w0 K L LS ns fs gs nf ff gf lv vl lsv w :=
  ⟨h.st.tl, h.tw, h.eq, h.bl, h.ls, h.ap, fun x hx => h.nb x (List.mem_cons_of_mem _ hx), h.sy, h.fm⟩
end
/-! ### One class's parts -/
section
variable {n k : Nat} {sup flds : List Int}
def pz (n k : Nat) : Nat → List Ob
  | 0 => []
  | 1 => [rw4 (listO (baseAt n k) [])]
  | 2 => [rw4 (listO (baseAt n k) []), rw4 (symO (symAt n k) (nmL n k))]
  | 3 => [rw4 (listO (baseAt n k) []), rw4 (symO (symAt n k) (nmL n k)), rw4 (listO (baseAt n k + 4 + cN n k) [])]
  | 4 => [rw4 (listO (baseAt n k) []), rw4 (symO (symAt n k) (nmL n k)), rw4 (listO (baseAt n k + 4 + cN n k) []), rw4 (listO (baseAt n k + 6 + cN n k) [])]
  | _ => [rw4 (listO (baseAt n k) []), rw4 (symO (symAt n k) (nmL n k)), rw4 (listO (baseAt n k + 4 + cN n k) []), rw4 (listO (baseAt n k + 6 + cN n k) []), rw4 (listO (baseAt n k + 8 + cN n k) [])]
def pA (n k : Nat) : Nat → Nat
  | 0 => baseAt n k
  | 1 => symAt n k
  | 2 => baseAt n k + 4 + cN n k
  | 3 => baseAt n k + 6 + cN n k
  | _ => baseAt n k + 8 + cN n k
theorem stE_len (k : Nat) (hk : k ≤ 22) (hn : n ≤ 6) (j : Nat) : (stE n sup flds k ++ pz n k j).length ≤ 1000 := by
  have h1 : ((List.range k).flatMap (partZ n)).length = 5 * k := by
    have : ∀ l : List Nat, (l.flatMap (partZ n)).length = 5 * l.length := fun l => by
      induction l with
      | nil => rfl
      | cons x l ih => rw [List.flatMap_cons, List.length_append, ih, List.length_cons]; show 5 + _ = _; omega
    rw [this, List.length_range]
  have h2 : (pz n k j).length ≤ 5 := by
    unfold pz; split <;> simp
  unfold stE
  rw [List.length_append, List.length_cons, List.length_append, List.length_append, List.length_append, h1]
  simp only [List.length_map, List.length_range]
  unfold NN; omega
theorem pz_pre (j : Nat) (hj : j < 5) (hn : n ≤ 6) (hk : k < NN n) : Chain 2 (stE n sup flds k ++ pz n k j) ∧ endL 2 (stE n sup flds k ++ pz n k j) = pA n k j := by
  match j, hj with
  | 0, _ => exact stE_at (j := 0) (o := listO (baseAt n k) []) hn hk rfl
  | 1, _ => exact stE_at (j := 1) (o := symO (symAt n k) ((namesL n).getD k [])) hn hk rfl
  | 2, _ => exact stE_at (j := 2) (o := listO (baseAt n k + 4 + cN n k) []) hn hk rfl
  | 3, _ => exact stE_at (j := 3) (o := listO (baseAt n k + 6 + cN n k) []) hn hk rfl
  | 4, _ => exact stE_at (j := 4) (o := listO (baseAt n k + 8 + cN n k) []) hn hk rfl
theorem pz_ok (hn : n ≤ 6) (j : Nat) : ∀ o ∈ stE n sup flds k ++ pz n k j, okB o.hd = true := by
  intro o ho
  rcases List.mem_append.1 ho with ho | ho
  · exact ok_stE hn k o ho
  · refine ok_partZ hn k o ?_
    have : ∃ i, pz n k j = (partZ n k).take i := match j with
      | 0 => ⟨0, rfl⟩
      | 1 => ⟨1, rfl⟩
      | 2 => ⟨2, rfl⟩
      | 3 => ⟨3, rfl⟩
      | 4 => ⟨4, rfl⟩
      | j + 5 => ⟨5, rfl⟩
    obtain ⟨i, e⟩ := this
    rw [e] at ho
    exact List.mem_of_mem_take ho
theorem pA_le (hn : n ≤ 6) (hk : k < NN n) (j : Nat) : pA n k j ≤ 1000 := by
  have := (base_le n hn).1 k (Nat.le_of_lt hk)
  unfold pA symAt
  split <;> omega
end
section
variable {n k : Nat} {sup flds : List Int}
theorem two_sets {α : Type} (L : List α) {a b : Nat} (hab : a ≠ b) (A1 B1 A2 B2 : α) : (((L.set a A1).set b B1).set a A2).set b B2 = (L.set a A2).set b B2 := by
  rw [List.set_comm B1 A2 hab.symm, List.set_set, List.set_set]
theorem pz_get (hk : k < NN n) : (stE n sup flds k ++ pz n k 5)[1 + k]? = some (clsZ k) ∧ (stE n sup flds k ++ pz n k 5)[1 + NN n + k]? = some (metaZ n k) := stE_get (sup := sup) (flds := flds) k 5 hk
theorem pz_step (hk : k < NN n) : ((stE n sup flds k ++ pz n k 5).set (1 + k) (clsO n sup flds k)).set (1 + NN n + k) (metaO n sup k) = stE n sup flds (k + 1) := stE_step k hk
theorem key_set {L : List Ob} {i : Nat} {o o' : Ob} (h : L[i]? = some o) (hk : keyO o' = keyO o) : (L.set i o').map keyO = L.map keyO := by
  rw [List.map_set]
  apply List.ext_getElem?
  intro j
  by_cases e : i = j
  · subst e
    have := (List.getElem?_eq_some_iff.1 h).1
    rw [List.getElem?_set_self (by rw [List.length_map]; exact this), List.getElem?_map, h, hk]; rfl
  · rw [List.getElem?_set_ne e]
theorem chain_set {L : List Ob} {i a : Nat} {o o' : Ob} (h : L[i]? = some o) (hk : keyO o' = keyO o) (hc : Chain a L) : Chain a (L.set i o') ∧ endL a (L.set i o') = endL a L := ⟨chain_keys (key_set h hk) hc, end_keys (key_set h hk)⟩
theorem pz_end (hn : n ≤ 6) (hk : k < NN n) : Chain 2 (stE n sup flds k ++ pz n k 5) ∧ endL 2 (stE n sup flds k ++ pz n k 5) ≤ 1000 := by
  have h := pz_pre (sup := sup) (flds := flds) 4 (by omega) hn hk
  have e : stE n sup flds k ++ pz n k 5 = (stE n sup flds k ++ pz n k 4) ++ [rw4 (listO (baseAt n k + 8 + cN n k) [])] := by rw [List.append_assoc]; rfl
  have hb := (base_le n hn).1 k (Nat.le_of_lt hk)
  rw [e]
  refine ⟨(chain_app _ 2 _).2 ⟨h.1, by rw [h.2]; rfl, trivial⟩, ?_⟩
  rw [end_app, h.2]
  show baseAt n k + 8 + cN n k + 2 + 0 ≤ 1000
  omega
end
theorem listsK_succ (n k : Nat) : listsK n (k + 1) = listsK n k ++ [2 * pA n k 0, 2 * pA n k 2, 2 * pA n k 3, 2 * pA n k 4] := by
  unfold listsK
  rw [List.range_succ, List.flatMap_append]; rfl
theorem listsK_len (n : Nat) : ∀ k, (listsK n k).length = 4 * k
  | 0 => rfl
  | k + 1 => by rw [listsK_succ, List.length_append, listsK_len n k]; simp only [List.length_cons, List.length_nil]; omega
section
variable {B T sb bl nb fb n k j : Nat} {sup flds : List Int} {w0 w w' : World} {K : List Th} {L : List Ob} {LS : List Nat} {ns : Nat} {fs : Bts → Int} {gs : Bts → Bool} {nf : Nat} {ff : Bts → Int} {gf : Bts → Bool} {lv : Value} {vl : List OV} {lsv : Value}
theorem Mid.listP (h : Mid B T sb bl nb fb w0 K (stE n sup flds k ++ pz n k j) LS ns fs gs nf ff gf lv vl lsv w) (ok : KOk B sb bl nb fb K) {bt : Nat} (hbt : Blk PTT bt #[.pointer (some ⟨T, 0, none⟩)] w) (hn : n ≤ 6) (hk : k < NN n) (hj : j = 0 ∨ j = 2 ∨ j = 3 ∨ j = 4) (hLS : LS.length ≤ 1000) :
    Calls Try.prog 41 #[.pointer (some ⟨bt, 0, none⟩), .pointer (some ⟨bl, 0, none⟩)] w (fun e w' => ∃ lv' vl' lsv', e = .returned (.int .u64 ((2 * pA n k j : Nat) : Int)) ∧ Mid B T sb bl nb fb w0 K (stE n sup flds k ++ pz n k (j + 1)) (LS ++ [2 * pA n k j]) ns fs gs nf ff gf lv' vl' lsv' w') := by
  have hk22 : k ≤ 22 := by unfold NN at hk; omega
  refine (h.list ok hbt (pz_pre j (by omega) hn hk) (pz_ok hn j) (by have := pA_le hn hk j; omega) (by have := stE_len (sup := sup) (flds := flds) k hk22 hn j; omega) (by omega)).mono ?_
  rintro e w' ⟨lv', vl', lsv', rfl, h1⟩
  refine ⟨lv', vl', lsv', rfl, ?_⟩
  rw [List.append_assoc] at h1
  rcases hj with rfl | rfl | rfl | rfl <;> exact h1
theorem Mid.symP {SY : Nat → Int} (h : Mid B T sb bl nb fb w0 K (stE n sup flds k ++ pz n k 1) LS k (fnF (nmL n) SY k) (gnF (nmL n) k) nf ff gf lv vl lsv w) (ok : KOk B sb bl nb fb K) (hn : n ≤ 6) (hk : k < NN n) (hSY : SY k = ((2 * pA n k 1 : Nat) : Int)) :
    Calls Try.prog 43 #[.pointer (some ⟨T, 0, none⟩), .string ⟨(nmL n k).toArray⟩] w (fun e w' => ∃ lv' vl', e = .returned (.int .u64 ((2 * pA n k 1 : Nat) : Int)) ∧ Mid B T sb bl nb fb w0 K (stE n sup flds k ++ pz n k 2) LS (k + 1) (fnF (nmL n) SY (k + 1)) (gnF (nmL n) (k + 1)) nf ff gf lv' vl' lsv w') := by
  have hk22 : k ≤ 22 := by unfold NN at hk; omega
  have hf : fnF (nmL n) SY k (nmL n k) = 0 := fnF_none k _ fun i hi e => by
    have := (nm_facts n hn i (by omega)).2.2 k hk e
    omega
  refine (h.sym ok hf (by omega) (pz_pre 1 (by omega) hn hk) (pz_ok hn 1) (by have := pA_le hn hk 1; omega) (by have := stE_len (sup := sup) (flds := flds) k hk22 hn 1; omega) (by have := nm_len hn k; omega)).mono ?_
  rintro e w' ⟨lv', vl', rfl, h1⟩
  refine ⟨lv', vl', rfl, ?_⟩
  rw [List.append_assoc, ← hSY] at h1
  exact h1
end
end Hp
end Go.Proofs.Ytojblndlchcjeaa
