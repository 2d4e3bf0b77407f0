/- Chapter 08: Lay behind its fourth loop: what is checked by reckoning; a town with what stays. No walk. -/
import Derived.Test.YtojblndlchcjeaaHpLz
set_option linter.unusedVariables false
namespace Go.Proofs.Ytojblndlchcjeaa
open Go.RowKit
open Go.Maps
namespace Hp
open Bs Sm
def hasW (l : List Ob) (w : Nat) : Bool := l.any (fun o : Ob => 2 * o.at_ == w)
theorem hasW_get {l : List Ob} {w : Nat} (h : hasW l w = true) : ∃ (k : Nat) (o : Ob), l[k]? = some o ∧ 2 * o.at_ = w := by
  unfold hasW at h
  rw [List.any_eq_true] at h
  obtain ⟨o, ho, e⟩ := h
  obtain ⟨k, hk⟩ := List.getElem?_of_mem ho
  exact ⟨k, o, hk, by simpa using e⟩
/-- All that the end of Lay wants to know of places. -/
def endB (n : Nat) (sup flds : List Int) : Bool :=
  chainB 2 (l0 n sup flds) && (endL 2 (l0 n sup flds) == globAt n) && (endL 2 (l0 n sup flds ++ [rw4 (listO (globAt n) (globW n))]) == symsAt n) && chainB 2 (l0 n sup flds ++ [rw4 (listO (globAt n) (globW n))]) && chainB 2 (l3 n sup flds) && decide (endL 2 (l3 n sup flds) ≤ 2000) &&
  (l0 n sup flds).all (fun o => okB o.hd) && (symsW n).all (hasW (l0 n sup flds)) && (allL n).all (hasW (l3 n sup flds)) && [2 * nilAt n 0, 2 * nilAt n 1, 2 * nilAt n 2].all (hasW (l3 n sup flds)) && decide ((l3 n sup flds).length ≤ 1000) &&
  decide ((l2 n sup flds)[0]? = some (rootZ (zer 24)))
set_option maxRecDepth 1000000 in
theorem end_chk (n : Nat) (hn : n ≤ 6) (sup flds : List Int) : endB n sup flds = true := by
  match n, hn with
  | 0, _ => exact (show endB 0 sup flds = true by kernel_rfl)
  | 1, _ => exact (show endB 1 sup flds = true by kernel_rfl)
  | 2, _ => exact (show endB 2 sup flds = true by kernel_rfl)
  | 3, _ => exact (show endB 3 sup flds = true by kernel_rfl)
  | 4, _ => exact (show endB 4 sup flds = true by kernel_rfl)
  | 5, _ => exact (show endB 5 sup flds = true by kernel_rfl)
  | 6, _ => exact (show endB 6 sup flds = true by kernel_rfl)
structure EndC (n : Nat) (sup flds : List Int) : Prop where
  c0 : Chain 2 (l0 n sup flds)
  e0 : endL 2 (l0 n sup flds) = globAt n
  e1 : endL 2 (l0 n sup flds ++ [rw4 (listO (globAt n) (globW n))]) = symsAt n
  c1 : Chain 2 (l0 n sup flds ++ [rw4 (listO (globAt n) (globW n))])
  c3 : Chain 2 (l3 n sup flds)
  e3 : endL 2 (l3 n sup flds) ≤ 2000
  ok : ∀ o ∈ l0 n sup flds, okB o.hd = true
  sw : ∀ x ∈ symsW n, hasW (l0 n sup flds) x = true
  al : ∀ x ∈ allL n, hasW (l3 n sup flds) x = true
  nl : hasW (l3 n sup flds) (2 * nilAt n 0) = true ∧ hasW (l3 n sup flds) (2 * nilAt n 1) = true ∧ hasW (l3 n sup flds) (2 * nilAt n 2) = true
  ln : (l3 n sup flds).length ≤ 1000
  rt : (l2 n sup flds)[0]? = some (rootZ (zer 24))
theorem end_c (n : Nat) (hn : n ≤ 6) (sup flds : List Int) : EndC n sup flds := by
  have h := end_chk n hn sup flds
  unfold endB at h
  simp only [Bool.and_eq_true, decide_eq_true_eq, beq_iff_eq, List.all_eq_true, List.mem_cons, List.not_mem_nil, or_false, forall_eq_or_imp, forall_eq] at h
  obtain ⟨⟨⟨⟨⟨⟨⟨⟨⟨⟨⟨h1, h2⟩, h3⟩, h4⟩, h5⟩, h6⟩, h7⟩, h8⟩, h9⟩, h10⟩, h11⟩, h12⟩ := h
  exact ⟨(chainB_iff _ _).1 h1, h2, h3, (chainB_iff _ _).1 h4, (chainB_iff _ _).1 h5, h6, h7, h8, h9, h10, h11, h12⟩
/-! ### A town, and what stays -/
structure Tn (B T sb : Nat) (w0 : World) (K : List Th) (L : List Ob) (lv : Value) (vl : List OV) (w : World) : Prop where
  st : Sta B w0 w K
  tw : Tw B T sb w lv vl 4
  eq : vl.map (·.1) = L
/-- All rows' blocks lie below G. -/
def Bd (vl : List OV) (K : List Th) (G : Nat) : Prop := (∀ x ∈ vl, ∀ b, x.2.1.ownBlock = some b → b < G) ∧ ∀ t ∈ K, ∀ b, t.ft = some b → b < G
section
variable {B T sb : Nat} {w0 w w' : World} {K : List Th} {L : List Ob} {lv : Value} {vl : List OV}
theorem Tn.sz (h : Tn B T sb w0 K L lv vl w) : B ≤ w.heap.size := Nat.le_trans h.st.2.1 h.st.1.size
theorem Tn.bel (h : Tn B T sb w0 K L lv vl w) (hb : Below w.heap.size w w') : Tn B T sb w0 K L lv vl w' := ⟨h.st.bel_ hb, h.tw.bel hb, h.eq⟩
theorem Tn.bd (h : Tn B T sb w0 K L lv vl w) : Bd vl K w.heap.size := ⟨fun x hx b hb => (World.ownsRow.lt (h.tw.rds x hx).1 b hb).2, fun t ht b hb => h.st.lt ht b hb⟩
theorem Bd.mono {G G' : Nat} (h : Bd vl K G) (hg : G ≤ G') : Bd vl K G' := ⟨fun x hx b hb => Nat.lt_of_lt_of_le (h.1 x hx b hb) hg, fun t ht b hb => Nat.lt_of_lt_of_le (h.2 t ht b hb) hg⟩
theorem Bd.set {G k : Nat} {x : OV} {o : Ob} (h : Bd vl K G) (hx : vl[k]? = some x) : Bd (vl.set k (o, x.2)) K G := ⟨fun y hy b hb => by
  rcases List.mem_or_eq_of_mem_set hy with hy | rfl
  · exact h.1 y hy b hb
  · exact h.1 x (List.mem_of_getElem? hx) b hb, h.2⟩
theorem Tn.cons (h : Tn B T sb w0 K L lv vl w) {t : Th} (ht : t.P w) : Tn B T sb w0 (t :: K) L lv vl w := ⟨h.st.cons ht, h.tw, h.eq⟩
theorem Tn.tl {t : Th} (h : Tn B T sb w0 (t :: K) L lv vl w) : Tn B T sb w0 K L lv vl w := ⟨h.st.tl, h.tw, h.eq⟩
/-- A row of words that lies above all others has grown. -/
theorem Tn.grownG {G m : Nat} {v : Value} {xs : List Value} (h : Tn B T sb w0 K L lv vl w) (hb : Bd vl K G) (hB : B ≤ G) (hg : w.grownBy w' v.ownBlock) (ho : w.ownsRow G UT 1 v m xs) : Tn B T sb w0 K L lv vl w' := by
  have hlt : ∀ b, v.ownBlock = some b → G ≤ b := fun b e => (World.ownsRow.lt ho b e).1
  have ho' := own_mono ho hB
  refine ⟨h.st.kept ((Below.refl B w).grown hg h.sz fun k hk => Nat.le_trans hB (hlt k hk)) fun x hx b e => hg.block b (h.st.lt hx b e) fun e' => ?_, ⟨h.tw.ge, blk_grown h.tw.blk hg ho' tyne.2.1, own_grown h.tw.row hg ho' tyne.2.2.1.symm, fun x hx => ⟨World.ownsRow.kept (h.tw.rds x hx).1 hg ?_, own_grown (h.tw.rds x hx).2 hg ho' tyne.2.2.2.2.2.symm⟩⟩, h.eq⟩
  · have := hlt b e'.symm
    have := hb.2 x hx b e
    omega
  · cases hb' : x.2.1.ownBlock with
    | none => exact .inl rfl
    | some b =>
      refine .inr fun e' => ?_
      have := hlt b e'.symm
      have := hb.1 x hx b hb'
      omega
theorem Tn.tf0 (h : Tn B T sb w0 K L lv vl w) (h1 : noT TT K = true) (h2 : noT OT K = true) (hf : Tf B (fun _ => False) w w') {lv' : Value} {vl' : List OV} {L' : List Ob} (ht : Tw B T sb w' lv' vl' 4) (he : vl'.map (·.1) = L') : Tn B T sb w0 K L' lv' vl' w' := ⟨h.st.tf0 hf h1 h2, ht, he⟩
theorem Tn.setK {g m lc k : Nat} {x : OV} (h : Tn B T sb w0 K L (.slice (some ⟨g, 0, none⟩) m lc) vl w) (h1 : noT TT K = true) (h2 : noT OT K = true) (hx : vl[k]? = some x) (c : Nat) :
    Tn B T sb w0 K (L.set k { x.1 with hd := { x.1.hd with cls := c } }) (.slice (some ⟨g, 0, none⟩) m lc) (vl.set k ({ x.1 with hd := { x.1.hd with cls := c } }, x.2)) (w.setCell ⟨g, k * 8 + 1, none⟩ (.int .u64 (c : Int))) := by
  obtain ⟨h3, h4⟩ := h.tw.setK hx c
  exact h.tf0 h1 h2 h4 h3 (by rw [List.map_set, h.eq])
theorem Tn.setW {g m lc k : Nat} {x : OV} {wv : Value} {ws : List Nat} (h : Tn B T sb w0 K L (.slice (some ⟨g, 0, none⟩) m lc) vl w) (h1 : noT TT K = true) (h2 : noT OT K = true) (hx : vl[k]? = some x) (hw : OwnU B w wv ws) :
    Tn B T sb w0 K (L.set k { x.1 with words := ws }) (.slice (some ⟨g, 0, none⟩) m lc) (vl.set k ({ x.1 with words := ws }, wv, x.2.2)) (w.setCell ⟨g, k * 8 + 6, none⟩ wv) := by
  obtain ⟨h3, h4⟩ := h.tw.setW hx hw
  exact h.tf0 h1 h2 h4 h3 (by rw [List.map_set, h.eq])
theorem Tn.at_ (h : Tn B T sb w0 K L lv vl w) {g m lc k wd : Nat} {o : Ob} (hlv : lv = .slice (some ⟨g, 0, none⟩) m lc) (hc : Chain 2 L) (hE : endL 2 L ≤ 100000) (hk : L[k]? = some o) (hw : 2 * o.at_ = wd) :
    Calls Try.prog 44 #[.pointer (some ⟨T, 0, none⟩), .int .u64 (wd : Int)] w (Back (.pointer (some ⟨g, k * 8, none⟩)) w) := by
  obtain ⟨x, hx, rfl⟩ := vl_at h.eq hk
  subst hlv
  have he := h.eq
  subst he
  exact at_any' B T sb 4 g m lc k wd vl x w h.tw hc hE hx (by omega)
/-- An object of words is added. -/
theorem Tn.add (h : Tn B T sb w0 K L lv vl w) (h1 : noT TT K = true) (h2 : noT OT K = true) {a : Nat} {wv : Value} {ws : List Nat} (hc : Chain 2 L ∧ endL 2 L = a) (hok : ∀ o ∈ L, okB o.hd = true) (ha : a ≤ 100000) (hl : L.length ≤ 100000) (hws : OwnU B w wv ws) (hsz : ws.length ≤ 100000) :
    Calls Try.prog 39 #[.pointer (some ⟨T, 0, none⟩), .int .i64 1, wv, .slice none 0 0] w (fun e w' => ∃ lv' vl', e = .returned (.int .u64 ((2 * a : Nat) : Int)) ∧ Tn B T sb w0 K (L ++ [rw4 (listO a ws)]) lv' vl' w' ∧ (∀ G, Bd vl K G → (∀ b, wv.ownBlock = some b → b < G) → Bd vl' K G) ∧ (∀ v, LApt vl v → (∀ b, wv.ownBlock = some b → v.ownBlock ≠ some b) → LApt vl' v) ∧ Tf B (fun _ => False) w w') := by
  refine (add_L (S := fun _ => True) (kind := 1) (bs := []) h.tw h.eq hc hok ha hl hws (Rd.nil _ _ _) ⟨by omega, by simp⟩ (by omega) h.sz).mono ?_
  rintro e w' ⟨lv', vl', rfl, q1, q2, ⟨bv, q3⟩, q4⟩
  refine ⟨lv', vl', rfl, h.tf0 h1 h2 q4 q1 q2, fun G hb hw => ⟨fun x hx b e => ?_, hb.2⟩, fun v hb hw x hx b e => ?_, q4⟩
  · rw [q3] at hx
    rcases List.mem_append.1 hx with hx | hx
    · exact hb.1 x hx b e
    · obtain rfl := List.mem_singleton.1 hx
      exact hw b e
  · rw [q3] at hx
    rcases List.mem_append.1 hx with hx | hx
    · exact hb x hx b e
    · obtain rfl := List.mem_singleton.1 hx
      exact hw b e
end
/-! ### Symbols -/
theorem sy_val {n N : Nat} (hn : n ≤ 6) (hN : N = NN n) (val : Nat → Int) (lk : Int) (i : Nat) (hi : i < N) : (fun x => if x = lacksL then lk else fnF (nmL n) val N x) (nmL n i) = val i := by
  show (if nmL n i = lacksL then lk else fnF (nmL n) val N (nmL n i)) = val i
  rw [if_neg (nm_facts n hn i (by rw [← hN]; exact hi)).2.1]
  exact fn_val hn hN val i hi
theorem sy_iff {n N : Nat} (hn : n ≤ 6) (hN : N = NN n) (x : Bts) : (fun x => if x = lacksL then true else gnF (nmL n) N x) x = true ↔ x ∈ symT n := by
  show (if x = lacksL then true else gnF (nmL n) N x) = true ↔ _
  unfold symT
  rw [List.mem_append, List.mem_singleton, hN, ← gnF_glob n hn x]
  by_cases e : x = lacksL
  · rw [if_pos e]; exact ⟨fun _ => .inr e, fun _ => rfl⟩
  · rw [if_neg e]; exact ⟨.inl, fun h => h.elim id (fun h => absurd h e)⟩
theorem glob_get {n k : Nat} (hk : k < NN n) : ∃ i, (orderL n)[k]? = some i ∧ (globT n)[k]? = some (nmL n i) ∧ (globW n).take (2 * k) ++ [2 * symAt n i, 2 * clsAt i] = (globW n).take (2 * (k + 1)) := by
  have hk' : k < (orderL n).length := by rw [order_len]; exact hk
  refine ⟨(orderL n)[k], List.getElem?_eq_getElem hk', by unfold globT; rw [List.getElem?_map, List.getElem?_eq_getElem hk']; rfl, ?_⟩
  have : ∀ (l : List Nat) (k : Nat) (h : k < l.length), (l.flatMap (fun i => [2 * symAt n i, 2 * clsAt i])).take (2 * k) ++ [2 * symAt n l[k], 2 * clsAt l[k]] = (l.flatMap (fun i => [2 * symAt n i, 2 * clsAt i])).take (2 * (k + 1)) := by
    intro l
    induction l with
    | nil => intro k h; simp at h
    | cons x l ih =>
      intro k h
      cases k with
      | zero => rfl
      | succ k =>
        have := ih k (by simpa using h)
        rw [List.flatMap_cons]
        show ([2 * symAt n x, 2 * clsAt x] ++ _).take (2 * k + 1 + 1) ++ _ = ([2 * symAt n x, 2 * clsAt x] ++ _).take (2 * (k + 1) + 1 + 1)
        simp only [List.cons_append, List.nil_append, List.take_succ_cons, List.getElem_cons_succ]
        rw [← this]
  exact this (orderL n) k hk'
theorem globW_len (n : Nat) : (globW n).length = 2 * NN n := by
  have : ∀ l : List Nat, (l.flatMap (fun i => [2 * symAt n i, 2 * clsAt i])).length = 2 * l.length := by
    intro l
    induction l with
    | nil => rfl
    | cons x l ih =>
      rw [List.flatMap_cons, List.length_append, ih, List.length_cons]
      show 2 + 2 * l.length = 2 * (l.length + 1)
      omega
  unfold globW
  rw [this, order_len]
theorem symsW_len (n : Nat) : (symsW n).length = NN n + 1 := by unfold symsW; rw [List.length_append, List.length_map, order_len]; rfl
theorem symT_len (n : Nat) : (symT n).length = NN n + 1 := by unfold symT globT; rw [List.length_append, List.length_map, order_len]; rfl
theorem sym_get {n k N : Nat} (hn : n ≤ 6) (hN : N = NN n) (hk : k < N + 1) : ∃ s x, (symT n)[k]? = some s ∧ (symsW n)[k]? = some x ∧ s.length ≤ 20 ∧ (fun x => if x = lacksL then ((2 * lackAt n : Nat) : Int) else fnF (nmL n) (fun i => ((2 * symAt n i : Nat) : Int)) N x) s = ((x : Nat) : Int) ∧ x ≠ 0 ∧ x ≤ 100000 := by
  have hb := (base_le n hn).1
  by_cases h : k < NN n
  · have hk' : k < (orderL n).length := by rw [order_len]; exact h
    have hi := order_lt n hn _ (List.getElem_mem hk')
    refine ⟨nmL n (orderL n)[k], 2 * symAt n (orderL n)[k], ?_, ?_, by have := nm_len hn (orderL n)[k]; omega, sy_val hn hN (fun i => ((2 * symAt n i : Nat) : Int)) _ _ (by rw [hN]; exact hi), by unfold symAt; omega, by have := hb _ (Nat.le_of_lt hi); unfold symAt; omega⟩
    · unfold symT globT
      rw [List.getElem?_append_left (by rw [List.length_map]; exact hk'), List.getElem?_map, List.getElem?_eq_getElem hk']; rfl
    · unfold symsW
      rw [List.getElem?_append_left (by rw [List.length_map]; exact hk'), List.getElem?_map, List.getElem?_eq_getElem hk']; rfl
  · obtain rfl : k = NN n := by omega
    refine ⟨lacksL, 2 * lackAt n, ?_, ?_, by decide, if_pos rfl, by unfold lackAt; omega, by have := hb (NN n) (Nat.le_refl _); unfold lackAt schedAt; omega⟩
    · unfold symT globT
      rw [List.getElem?_append_right (by rw [List.length_map, order_len]; exact Nat.le_refl _), List.length_map, order_len, Nat.sub_self]; rfl
    · unfold symsW
      rw [List.getElem?_append_right (by rw [List.length_map, order_len]; exact Nat.le_refl _), List.length_map, order_len, Nat.sub_self]; rfl
section
variable {B T sb : Nat} {w0 w w' : World} {K : List Th} {L : List Ob} {lv : Value} {vl : List OV}
/-- A row of words that is none of the others' has grown. -/
theorem Tn.grownU {v : Value} {M : List Nat} (h : Tn B T sb w0 K L lv vl w) (hg : w.grownBy w' v.ownBlock) (ho : OwnU B w v M) (ha : LApt vl v) (hN : ∀ x ∈ K, x.ty = some UT → ∀ b, x.ft = some b → v.ownBlock ≠ some b) : Tn B T sb w0 K L lv vl w' :=
  ⟨h.st.kept ((Below.refl B w).grown hg h.sz fun k hk => (World.ownsRow.lt ho k hk).1) fun x hx b hb => hg.block b (h.st.lt hx b hb) fun e' => by
    by_cases e : x.ty = some UT
    · exact hN x hx e b hb e'.symm
    · rcases ho.2 with ⟨e1, hn⟩ | ⟨g1, cap1, cur1, e1, k1, k2, -⟩
      · rw [e1] at e'; cases e'
      · rw [e1] at e'
        have e' : some b = some g1 := e'
        cases e'
        obtain ⟨o, ho', h6, -⟩ := x.has w (h.st.2.2 x hx) b hb
        rw [k2] at ho'
        cases ho'
        exact e (h6 _ _ _ rfl), h.tw.grownU hg ho ha, h.eq⟩
theorem LApt.set {v : Value} {k : Nat} {x : OV} {o : Ob} (h : LApt vl v) (hx : vl[k]? = some x) : LApt (vl.set k (o, x.2)) v := fun y hy b hb => by
  rcases List.mem_or_eq_of_mem_set hy with hy | rfl
  · exact h y hy b hb
  · exact h x (List.mem_of_getElem? hx) b hb
theorem setC_chain {c a : Nat} {P : List Nat} {l : List Ob} (h : Chain a l) : Chain a (setC c P l) ∧ endL a (setC c P l) = endL a l := ⟨chain_keys (key_setC c P l) h, end_keys (key_setC c P l)⟩
/-- All that a class's store wants to know. -/
theorem Tn.cls {c wd : Nat} {P : List Nat} {l : List Ob} (h : Tn B T sb w0 K (setC c P l) lv vl w) (hc : Chain 2 l) (hE : endL 2 l ≤ 100000) (hw : hasW l wd = true) (h1 : noT TT K = true) (h2 : noT OT K = true) :
    ∃ g m lc k x, lv = .slice (some ⟨g, 0, none⟩) m lc ∧ vl[k]? = some x ∧ (∀ w1, Tn B T sb w0 K (setC c P l) lv vl w1 → Calls Try.prog 44 #[.pointer (some ⟨T, 0, none⟩), .int .u64 (wd : Int)] w1 (Back (.pointer (some ⟨g, k * 8, none⟩)) w1) ∧
      w1.cell? ⟨g, k * 8 + 1, none⟩ = some (.int .u64 (x.1.hd.cls : Int)) ∧ w1.frozen? ⟨g, k * 8 + 1, none⟩ = false ∧ Tf B (fun _ => False) w1 (w1.setCell ⟨g, k * 8 + 1, none⟩ (.int .u64 (c : Int))) ∧
      Tn B T sb w0 K (setC c (P ++ [wd]) l) lv (vl.set k ({ x.1 with hd := { x.1.hd with cls := c } }, x.2)) (w1.setCell ⟨g, k * 8 + 1, none⟩ (.int .u64 (c : Int)))) := by
  obtain ⟨k, o, hk, ho⟩ := hasW_get hw
  have hk' := setC_get (c := c) (P := P) hk
  obtain ⟨x, hx, hx1⟩ := vl_at h.eq hk'
  obtain ⟨g, lc, rfl⟩ := h.tw.g hx
  have hat : 2 * x.1.at_ = wd := by rw [hx1]; split <;> exact ho
  obtain ⟨h3, h4⟩ := setC_chain (c := c) (P := P) hc
  refine ⟨g, vl.length, lc, k, x, rfl, hx, fun w1 hT => ⟨hT.at_ rfl h3 (by rw [h4]; exact hE) hk' (by rw [← hx1]; exact hat), ?_⟩⟩
  have hC := hT.tw.cells hx
  refine ⟨hC.1.2.1, hC.2 _, (hT.tw.setK hx c).2, ?_⟩
  have hS := hT.setK h1 h2 hx c
  rw [setC_step hc hk ho (by rw [hk', ← hx1])] at hS
  exact hS
theorem hasW_setC (c : Nat) (P : List Nat) (l : List Ob) (wd : Nat) : hasW (setC c P l) wd = hasW l wd := by
  unfold hasW setC
  rw [List.any_map]
  congr 1
  funext o
  show (2 * (if 2 * o.at_ ∈ P then ({ o with hd := { o.hd with cls := c } } : Ob) else o).at_ == wd) = _
  split <;> rfl
theorem hasW_nilC (n : Nat) (l : List Ob) (wd : Nat) : ∀ k, hasW (nilC n k l) wd = hasW l wd
  | 0 => rfl
  | k + 1 => by
    show hasW (setC _ _ (nilC n k l)) wd = _
    rw [hasW_setC, hasW_nilC n l wd k]
theorem nilC_chain {a : Nat} (n : Nat) {l : List Ob} (h : Chain a l) : ∀ k, Chain a (nilC n k l) ∧ endL a (nilC n k l) = endL a l
  | 0 => ⟨h, rfl⟩
  | k + 1 => by
    obtain ⟨h1, h2⟩ := nilC_chain n h k
    obtain ⟨h3, h4⟩ := setC_chain (c := 2 * clsAt (3 + k)) (P := [2 * nilAt n k]) h1
    exact ⟨h3, h4.trans h2⟩
theorem rootW_app (n : Nat) : [2 * nilAt n 0, 2 * nilAt n 1, 2 * nilAt n 2, 2 * globAt n, 2 * symsAt n] ++ (List.range 16).map (fun i => 2 * clsAt i) ++ [2 * schedAt n, 2 * lackAt n, 2 * nilAt n 0] = rootW n := rfl
theorem l2_chain {n : Nat} {sup flds : List Int} (h : EndC n sup flds) : Chain 2 (l2 n sup flds) ∧ endL 2 (l2 n sup flds) ≤ 2000 := by
  have hk : (l3 n sup flds).map keyO = (l2 n sup flds).map keyO := key_set (o' := rootZ (rootW n)) h.rt rfl
  exact ⟨chain_keys hk.symm h.c3, by rw [end_keys hk.symm]; exact h.e3⟩
end
end Hp
end Go.Proofs.Ytojblndlchcjeaa
