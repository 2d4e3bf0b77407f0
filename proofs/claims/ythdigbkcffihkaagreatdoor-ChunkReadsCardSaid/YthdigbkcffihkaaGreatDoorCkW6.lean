/- Package chunk, the walk, 6: the reader's memory; class. -/
import Derived.Test.YthdigbkcffihkaaGreatDoorCkW5
import Derived.Deep.RegionLaw
set_option linter.unusedVariables false
namespace Go.Proofs.YthdigbkcffihkaaGreatDoor
open Go.RowKit
namespace Ck
open Lx
theorem step_append_own {P : Program} {ops : Array Oper} {o : Oper} {a : Act} {w : World} {K : Act → World → Prop} {Q : Exit → Act → World → Prop} {E : Prop}
    (hg : o.guard = none) (s x : Operand) (t : TypeId) (hop : o.op = Op.call { callee := Callee.builtin Builtin.append, args := #[s, x], argTypes := #[t, t] })
    (base : Nat) (e : TypeId) (i : TypeInfo) (z : Value) (size bytes : Nat) (h1 : P.underlying t = some (.slice e)) (h2 : P.info? e = some i) (h3 : i.zero = some z) (h4 : i.size = size) (h5 : i.bytes = bytes) (h6 : z.cells.size = size) (h7 : 0 < size)
    (v : Value) (n : Nat) (xs : List Value) (hs : a.eval s = v) (hown : w.ownsRow base e size v n xs)
    (ad : Addr) (m c : Nat) (news : List Value) (hx : a.eval x = .slice (some ad) m c) (hn : news.length = m * size) (hc : ∀ j u, news[j]? = some u → w.cell? (ad.add j) = some u) (h1c : ∀ u ∈ news, u.oneCell' = true)
    (b1 : n + m ≤ maxLen) (b2 : (n + m) * bytes ≤ 140737488355328) (hbase : base ≤ w.heap.size)
    (hK : ∀ v' w', w'.ownsRow base e size v' (n + m) (xs ++ news) → w.grownBy w' v.ownBlock → K (a.put o.dst v') w') :
    if Region.wanted o (yielded ops a.tmps) = true then Oper.wp P o a w K Q else E := by
  have hw : Region.wanted o (yielded ops a.tmps) = true := by simp [Region.wanted, hg]
  rw [if_pos hw]
  obtain ⟨v', w', hrun, r1, r2, _⟩ := run_append_own (P := P) w base t o.type e i z size bytes h1 h2 h3 h4 h5 h6 h7 v n xs hown ad m c news hn hc h1c b1 b2 hbase
  unfold Oper.wp
  simp [execOp, hop, resolve, invoke, builtin, hs, hx, hrun, Result.andThen]
  exact hK v' w' r1 r2
theorem own_form {w : World} {B e size n : Nat} {v : Value} {xs : List Value} (h : w.ownsRow B e size v n xs) (hn : 0 < n) : ∃ gg c, v = .slice (some ⟨gg, 0, none⟩) n c := by
  rcases h.2 with ⟨rfl, rfl⟩ | ⟨gg, c, cur, rfl, _⟩
  · omega
  · exact ⟨_, _, rfl⟩
abbrev CT : Nat := 73
abbrev SrT : Nat := 45
abbrev RdT : Nat := 57
def clsV (x : Cls × Value) : List Value := [strV x.1.name, strV x.1.super, x.2, .int .i64 (x.1.at_ : Int)]
def flatC (l : List (Cls × Value)) : List Value := l.flatMap clsV
theorem flatC_snoc (l : List (Cls × Value)) (x : Cls × Value) : flatC (l ++ [x]) = flatC l ++ clsV x := by unfold flatC; simp
def srcV (x : Src) : List Value := [strV x.cls, .bool x.meta_, strV x.text, .int .i64 (x.at_ : Int)]
def flatS (l : List Src) : List Value := l.flatMap srcV
theorem flatS_snoc (l : List Src) (x : Src) : flatS (l ++ [x]) = flatS l ++ srcV x := by unfold flatS; simp
def Strs (B : Nat) (v : Value) (l : List Bytes) (w : World) : Prop := w.ownsRow B ST 1 v l.length (l.map strV)
/-- What is open: a block of its own, no row. -/
def OpnAt (B : Nat) (ov sv : Value) (o : Option (Bytes × Bool)) (w : World) : Prop :=
  match o with
  | none => ov = .pointer none
  | some (c, m) => ∃ k, ov = .pointer (some ⟨k, 0, none⟩) ∧ B ≤ k ∧ Blk SrT k #[strV c, .bool m, .string ⟨#[]⟩, .int .i64 0] w ∧ sv.ownBlock ≠ some k
/-- Block R is a reader that has read so much. -/
def Rdr (B R : Nat) (st : Rst) (w : World) : Prop :=
  ∃ (cv sv ov : Value) (cl : List (Cls × Value)), B ≤ R ∧ Blk RdT R #[cv, sv, ov] w ∧ cl.map (·.1) = st.cs ∧ w.ownsRow B CT 4 cv cl.length (flatC cl) ∧ (∀ x ∈ cl, Strs B x.2 x.1.fields w) ∧ w.ownsRow B SrT 4 sv st.ss.length (flatS st.ss) ∧ (∀ x ∈ st.ss, x.text ≠ []) ∧ OpnAt B ov sv st.opn w
theorem OpnAt.below {B : Nat} {ov sv : Value} {o : Option (Bytes × Bool)} {w w' : World} (h : OpnAt B ov sv o w) (hb : Below w.heap.size w w') : OpnAt B ov sv o w' := by
  cases o with
  | none => exact h
  | some cm =>
    obtain ⟨k, h1, h2, h3, h4⟩ := h
    exact ⟨k, h1, h2, h3.below hb h3.lt, h4⟩
theorem Rdr.below {B R : Nat} {st : Rst} {w w' : World} (h : Rdr B R st w) (hb : Below w.heap.size w w') : Rdr B R st w' := by
  obtain ⟨cv, sv, ov, cl, h1, h2, h3, h4, h5, h6, h7, h8⟩ := h
  exact ⟨cv, sv, ov, cl, h1, h2.below hb h2.lt, h3, own_below h4 hb, fun x hx => own_below (h5 x hx) hb, own_below h6 hb, h7, h8.below hb⟩
/-- A row's slice: nothing, or a block's. -/
theorem own_slice {w : World} {B e size n : Nat} {v : Value} {xs : List Value} (h : w.ownsRow B e size v n xs) : ∃ ao c, v = .slice ao n c ∧ (0 < n → ∃ gg, ao = some ⟨gg, 0, none⟩ ∧ B ≤ gg ∧ gg < w.heap.size ∧ n ≤ c ∧ c ≤ maxLen) := by
  have hlt := h.lt
  rcases h.2 with ⟨rfl, rfl⟩ | ⟨gg, c, cur, rfl, h1, h2, h3, h4, _⟩
  · exact ⟨none, 0, rfl, fun h => absurd h (by omega)⟩
  · exact ⟨_, _, rfl, fun _ => ⟨gg, rfl, h1, (hlt gg rfl).2, h3, h4⟩⟩
theorem strs_at {w : World} {B n c gg : Nat} {l : List Bytes} (h : w.ownsRow B ST 1 (.slice (some ⟨gg, 0, none⟩) n c) l.length (l.map strV)) (i : Nat) (b : Bytes) (hb : l[i]? = some b) : w.cell? ⟨gg, i, none⟩ = some (.string ⟨b.toArray⟩) := by
  have := World.ownsRow.cells h (g := gg) rfl i (strV b) (by rw [List.getElem?_map, hb]; rfl)
  have e : (⟨gg, 0, none⟩ : Addr).add i = ⟨gg, i, none⟩ := by unfold Addr.add; split <;> simp_all
  rw [e] at this
  exact this
section
variable {w w' : World} {B e size n B' e' size' n' T k : Nat} {v v' : Value} {xs xs' : List Value} {cs : Array Value}
theorem own_ne_blk (h : w.ownsRow B e size v n xs) (hk : Blk T k cs w) (hne : e ≠ T) : v.ownBlock ≠ some k := by
  rcases h.2 with ⟨rfl, _⟩ | ⟨gg, c, cur, rfl, _, h2, _⟩
  · intro h; cases h
  · intro h
    have h : some gg = some k := h
    cases h
    unfold Blk at hk
    rw [hk] at h2
    cases h2
    exact hne rfl
theorem own_ne (h : w.ownsRow B e size v n xs) (h' : w.ownsRow B' e' size' v' n' xs') (hne : e ≠ e') : v.ownBlock = none ∨ v.ownBlock ≠ v'.ownBlock := by
  rcases h'.2 with ⟨rfl, _⟩ | ⟨gg, c, cur, rfl, _, h2, _⟩
  · cases hv : v.ownBlock with
    | none => exact .inl rfl
    | some x => exact .inr (by intro h; cases h)
  · exact .inr (own_ne_blk h (T := e') (cs := cur) h2 hne)
theorem own_grown (h : w.ownsRow B e size v n xs) (hg : w.grownBy w' v'.ownBlock) (h' : w.ownsRow B' e' size' v' n' xs') (hne : e ≠ e') : w'.ownsRow B e size v n xs := h.kept hg (own_ne h h' hne)
theorem blk_grown (hk : Blk T k cs w) (hg : w.grownBy w' v.ownBlock) (h : w.ownsRow B e size v n xs) (hne : e ≠ T) : Blk T k cs w' :=
  (hg.block k hk.lt (fun h' => own_ne_blk h hk hne h'.symm)).trans hk
theorem own_set (h : w.ownsRow B e size v n xs) (hk : Blk T k cs w) (hne : e ≠ T) (i : Nat) (u : Value) : (w.setCell ⟨k, i, none⟩ u).ownsRow B e size v n xs :=
  h.kept (row := some k) ⟨rfl, rfl, rfl, by simp [World.setCell], fun j _ hj => Below.heap_setCell _ _ _ _ (fun e => hj (by simp [e]))⟩ (.inr (own_ne_blk h hk hne))
theorem blk_set {T' k' : Nat} {cs' : Array Value} (hk : Blk T k cs w) (hk' : Blk T' k' cs' w) (hne : T ≠ T') (i : Nat) (u : Value) : Blk T k cs (w.setCell ⟨k', i, none⟩ u) :=
  hk.far (p := ⟨k', i, none⟩) (by show k ≠ k'; rintro rfl; unfold Blk at hk hk'; rw [hk] at hk'; cases hk'; exact hne rfl) u
end
theorem words_le : ∀ (f : Nat) (s : Bytes), ∀ x ∈ wordsF f s, x.length ≤ s.length
  | 0, _, _, h => by cases h
  | f + 1, s, x, h => by
    unfold wordsF at h
    split at h
    · cases h
    · obtain ⟨h1, h2⟩ := tw_drop (fun c => !Lx.blank c) s
      rcases List.mem_cons.1 h with rfl | h
      · have := congrArg List.length h2
        rw [List.length_take] at this
        omega
      · have h3 := words_le f _ x h
        have h4 := trimL_le (s.dropWhile (fun c => !Lx.blank c))
        rw [h1, List.length_drop] at h4
        rw [h1] at h3
        omega
theorem wordsL_le (s : Bytes) (x : Bytes) (h : x ∈ wordsL s) : x.length ≤ s.length := by
  have h1 := words_le _ _ x h
  have h2 := trimL_le (Lib.trimRightS s blanksL)
  have h3 := trimR_le s
  unfold Lib.trimS at h1
  omega
theorem OpnAt.grown {B B' e' size' n' : Nat} {ov sv v' : Value} {o : Option (Bytes × Bool)} {w w' : World} {xs' : List Value} (h : OpnAt B ov sv o w) (hg : w.grownBy w' v'.ownBlock) (h' : w.ownsRow B' e' size' v' n' xs') (hne : e' ≠ SrT) : OpnAt B ov sv o w' := by
  cases o with
  | none => exact h
  | some cm =>
    obtain ⟨k, h1, h2, h3, h4⟩ := h
    exact ⟨k, h1, h2, blk_grown h3 hg h' hne, h4⟩
theorem OpnAt.set_ {B T' k' : Nat} {ov sv : Value} {o : Option (Bytes × Bool)} {w : World} {cs' : Array Value} (h : OpnAt B ov sv o w) (hk' : Blk T' k' cs' w) (hne : SrT ≠ T') (i : Nat) (u : Value) : OpnAt B ov sv o (w.setCell ⟨k', i, none⟩ u) := by
  cases o with
  | none => exact h
  | some cm =>
    obtain ⟨k, h1, h2, h3, h4⟩ := h
    exact ⟨k, h1, h2, blk_set h3 hk' hne i u, h4⟩
/-- All blocks but readers and rows of classes stay as they are. -/
structure KeepC (w w' : World) : Prop where
  size : w.heap.size ≤ w'.heap.size
  block : ∀ (k : Nat) (cs : Array Value) (T : TypeId) (fz : Nat × Nat), w.heap[k]? = some (Obj.cells cs T fz) → T ≠ RdT → T ≠ CT → w'.heap[k]? = w.heap[k]?
theorem KeepC.of {w w' : World} (h : Below w.heap.size w w') : KeepC w w' := ⟨h.size, fun k cs T fz hk _ _ => h.block k (Array.getElem?_eq_some_iff.1 hk).1⟩
theorem KeepC.trans {a b c : World} (h : KeepC a b) (k : KeepC b c) : KeepC a c :=
  ⟨Nat.le_trans h.size k.size, fun i cs T fz hi h1 h2 => by
    have e := h.block i cs T fz hi h1 h2
    rw [← e]
    exact k.block i cs T fz (by rw [e]; exact hi) h1 h2⟩
theorem KeepC.below {a b c : World} (h : KeepC a b) (k : Below b.heap.size b c) : KeepC a c := h.trans (.of k)
theorem KeepC.set_ {a b : World} (h : KeepC a b) {R : Nat} {cs : Array Value} (hk : Blk RdT R cs b) (i : Nat) (u : Value) : KeepC a (b.setCell ⟨R, i, none⟩ u) :=
  h.trans ⟨by simp [World.setCell], fun k cs' T fz hk' h1 h2 => Below.heap_setCell _ _ _ _ (by
    rintro rfl
    unfold Blk at hk
    rw [hk] at hk'
    cases hk'
    exact h1 rfl)⟩
theorem KeepC.grown {a b c : World} (h : KeepC a b) {v : Value} {B size n : Nat} {xs : List Value} (hg : b.grownBy c v.ownBlock) (ho : b.ownsRow B CT size v n xs) : KeepC a c :=
  h.trans ⟨hg.size, fun k cs T fz hk h1 h2 => hg.block k (Array.getElem?_eq_some_iff.1 hk).1 (by
    rcases ho.2 with ⟨rfl, _⟩ | ⟨gg, cp, cur, rfl, _, hgg, _⟩
    · intro h; cases h
    · intro hh
      have hh : some k = some gg := hh
      cases hh
      rw [hgg] at hk
      cases hk
      exact h2 rfl)⟩
theorem KeepC.own {w w' : World} (h : KeepC w w') {base e size n : Nat} {v : Value} {xs : List Value} (ho : w.ownsRow base e size v n xs) (h1 : e ≠ RdT) (h2 : e ≠ CT) : w'.ownsRow base e size v n xs := by
  obtain ⟨k1, k2⟩ := ho
  refine ⟨k1, ?_⟩
  rcases k2 with hn | ⟨g, cap, cur, rfl, hbg, hg, rest⟩
  · exact .inl hn
  · exact .inr ⟨g, cap, cur, rfl, hbg, (h.block g _ _ _ hg h1 h2).trans hg, rest⟩
theorem KeepC.blk {w w' : World} (h : KeepC w w') {T k : Nat} {cs : Array Value} (hk : Blk T k cs w) (h1 : T ≠ RdT) (h2 : T ≠ CT) : Blk T k cs w' := (h.block k _ _ _ hk h1 h2).trans hk
variable {w : World} {l : List Tok} {g cap : Nat}
set_option maxRecDepth 100000 in
set_option maxHeartbeats 3200000 in
theorem class_any {B R : Nat} {st : Rst} (at_ : Nat) (hR : Rdr B R st w) (hB : B ≤ w.heap.size) (hl : Rows_ g l w) (hg : g < w.heap.size) (h6 : l.length = 6) (hc6 : 6 ≤ cap) (hsz : ∀ t ∈ l, t.word.length ≤ 1099511627) (hcs : st.cs.length ≤ 1099511627) :
    Calls Tryz.prog 39 #[.pointer (some ⟨R, 0, none⟩), .slice (some ⟨g, 0, none⟩) 6 cap, .int .i64 (at_ : Int)] w (fun e w' => e = .returned (.bool (classOk l)) ∧ Below B w w' ∧ KeepC w w' ∧ Rdr B R { st with cs := st.cs ++ [classOf l at_] } w') := by
  obtain ⟨t0, ht0⟩ : ∃ t, l[0]? = some t := ⟨_, List.getElem?_eq_getElem (by omega)⟩
  obtain ⟨t2, ht2⟩ : ∃ t, l[2]? = some t := ⟨_, List.getElem?_eq_getElem (by omega)⟩
  obtain ⟨t4, ht4⟩ : ∃ t, l[4]? = some t := ⟨_, List.getElem?_eq_getElem (by omega)⟩
  have k0 := hsz t0 (List.mem_of_getElem? ht0)
  have k2 := hsz t2 (List.mem_of_getElem? ht2)
  have k4 := hsz t4 (List.mem_of_getElem? ht4)
  have hco : classOf l at_ = ⟨t2.word, if t0.word = wNil then [] else t0.word, wordsL t4.word, at_⟩ := by unfold classOf wd; rw [ht0, ht2, ht4]; rfl
  have hck : classOk l = (named t2.word && (wordsL t4.word).all named) := by unfold classOk wd; rw [ht2, ht4]; rfl
  have q0 := (hl 0 t0 ht0).2.1
  have q2 := (hl 2 t2 ht2).2.1
  have q4 := (hl 4 t4 ht4).2.1
  simp only [Nat.reduceMul, Nat.reduceAdd] at q0 q2 q4
  rw [hco, hck]
  clear hl hsz hco hck ht0 ht2 ht4
  obtain ⟨n0, hn0⟩ : ∃ b : ByteArray, (⟨t0.word.toArray⟩ : ByteArray) = b := ⟨_, rfl⟩
  obtain ⟨n2, hn2⟩ : ∃ b : ByteArray, (⟨t2.word.toArray⟩ : ByteArray) = b := ⟨_, rfl⟩
  obtain ⟨n4, hn4⟩ : ∃ b : ByteArray, (⟨t4.word.toArray⟩ : ByteArray) = b := ⟨_, rfl⟩
  rw [hn0] at q0
  rw [hn2] at q2
  rw [hn4] at q4
  have d0 : n0.data.toList = t0.word := by rw [← hn0]
  have d2 : n2.data.toList = t2.word := by rw [← hn2]
  have d4 : n4.data.toList = t4.word := by rw [← hn4]
  have s2 : n2.size ≤ 1099511627 := by show n2.data.toList.length ≤ _; rw [d2]; exact k2
  have s4 : n4.size ≤ 1099511627 := by show n4.data.toList.length ≤ _; rw [d4]; exact k4
  have hN := fun v : World => name_any n2 v (by omega)
  have hWd := fun v : World => words_any n4 v (by omega)
  rw [d2] at hN
  rw [d4] at hWd
  have HN := Lib.hid hN
  have HWd := Lib.hid hWd
  have HR := Lib.hid hR
  have D0 := Lib.hid d0
  have D2 := Lib.hid d2
  have K4 := Lib.hid k4
  have HSN : Hid (strV t2.word = .string n2) := Lib.hid (by rw [← d2]; unfold strV; rw [Array.toArray_toList])
  clear hN hWd hR d0 d2 d4 hn0 hn2 hn4 k0 k2 k4
  obtain ⟨i0, hi, hz0, hz1, hz2⟩ := info_parts (show (Tryz.prog.info? CT).map (fun i => (i.zero, i.size, i.bytes)) = some (some (.agg #[.string ⟨#[]⟩, .string ⟨#[]⟩, .slice none 0 0, .int .i64 0]), 4, 64) by kernel_rfl)
  have tsl : Tryz.prog.underlying 23 = some (.slice CT) := by kernel_rfl
  by_cases hnil : t0.word = wNil
  · rw [if_pos hnil]
    have hb : (n0.toList == [110, 105, 108]) = true := by rw [ByteArray.toList_eq, D0.out, hnil]; rfl
    obtain ⟨sp, hsp⟩ : ∃ sp : ByteArray, (⟨#[]⟩ : ByteArray) = sp := ⟨_, rfl⟩
    have HSP : Hid (strV [] = .string sp) := Lib.hid (by rw [← hsp]; rfl)
    go_enter Tryz.func39, Tryz.ntmps39
    go_wp2_with fail
    go_region
    go_wp2_with fail
    have hk := Blk.made (T := CT) (cs := #[.string n2, .string sp, .slice none 0 0, .int .i64 (at_ : Int)]) w
    have hbW := ((Below.refl _ w).alloc (Nat.le_refl _) (.cells #[.string n2, .string sp, .slice none 0 0, .int .i64 (at_ : Int)] CT)).drew
    obtain ⟨W, hW⟩ : ∃ W, (w.alloc (.cells #[.string n2, .string sp, .slice none 0 0, .int .i64 (at_ : Int)] CT)).drew = W := ⟨_, rfl⟩
    have hk : Blk CT w.heap.size #[.string n2, .string sp, .slice none 0 0, .int .i64 (at_ : Int)] W := by rw [← hW]; exact hk
    rw [hW] at hbW ⊢
    clear hW hnil hsp
    refine (HN.out _).mono ?_; rintro e w1 ⟨rfl, hb1⟩
    have hk := hk.below hb1 hk.lt
    have hb1 := hbW.trans (hb1.mono hbW.size)
    have q4 := (hb1.cell (p := ⟨g, 17, none⟩) hg).trans q4
    clear hbW q0 q2
    go_wp2_with fail
    refine (HWd.out _).mono ?_; rintro e w2 ⟨hb2, fv, rfl, hown⟩
    have hown := own_mono hown (Nat.le_trans hB hb1.size)
    obtain ⟨ao, cf, rfl, hao⟩ := own_slice hown
    obtain ⟨nf, hnf⟩ : ∃ nf, (wordsL t4.word).length = nf := ⟨_, rfl⟩
    rw [hnf] at hao ⊢
    have HNF := Lib.hid hnf
    clear hnf
    have hk := hk.below hb2 hk.lt
    have hb2 := hb1.trans (hb2.mono hb1.size)
    have e2 := hk.c 2 _ rfl
    have ef := hk.fz
    clear hb1
    go_wp2_with fail
    have hcb : Blk CT w.heap.size #[.string n2, .string sp, .slice ao nf cf, .int .i64 (at_ : Int)] (w2.setCell ⟨w.heap.size, 2, none⟩ (.slice ao nf cf)) := hk.set_ 2 _ _ rfl
    have hb3 := hb2.setCell (p := ⟨w.heap.size, 2, none⟩) (Nat.le_refl _) (.slice ao nf cf)
    have hown3 := own_set hown hk (by decide) 2 (.slice ao nf cf)
    obtain ⟨W3, hW3⟩ : ∃ W3, w2.setCell ⟨w.heap.size, 2, none⟩ (.slice ao nf cf) = W3 := ⟨_, rfl⟩
    rw [hW3] at hcb hb3 hown3 ⊢
    have hs3 : w2.heap.size = W3.heap.size := by rw [← hW3]; simp [World.setCell]
    clear hW3 hk hb2 hown e2 ef q4
    go_loopw [8, 37] (fun y z wr => ∃ (k : Nat) (q : Bool), y = .bool q ∧ z = .int .i64 (k : Int) ∧ k ≤ nf ∧ Hid (q = (named t2.word && ((wordsL t4.word).take k).all named)) ∧ Below W3.heap.size W3 wr) (fun _ z _ => nf - (intOf z).toNat)
    case atStart => exact ⟨0, _, rfl, rfl, Nat.zero_le _, Lib.hid (by simp), Below.refl _ _⟩
    case round =>
      obtain ⟨k, q, rfl, rfl, hk, hq, hbr⟩ := hrel
      by_cases hkn : k < nf
      · have hdec : decide ((k : Int) < (nf : Int)) = true := by simpa using hkn
        have hkw : IntKind.i64.wrap ((k : Int) + 1) = (k : Int) + 1 := IntWalk.i64_in _ (by have := (hao (by omega)); obtain ⟨_, _, _, _, _, h⟩ := this; unfold maxLen at h; omega)
        obtain ⟨gf, rfl, hgf1, hgf2, hgf3, hgf4⟩ := hao (by omega)
        obtain ⟨x, hx⟩ : ∃ x, (wordsL t4.word)[k]? = some x := ⟨_, List.getElem?_eq_getElem (by rw [HNF.out]; exact hkn)⟩
        have r0 := (hbr.cell (p := ⟨gf, k, none⟩) (by show gf < _; omega)).trans (strs_at (n := nf) (by rw [HNF.out] at hown3 ⊢; exact hown3) k x hx)
        have hxs := Nat.le_trans (wordsL_le _ x (List.mem_of_getElem? hx)) K4.out
        have hF := fun v : World => name_any ⟨x.toArray⟩ v (by show x.length ≤ _; omega)
        rw [show (⟨x.toArray⟩ : ByteArray).data.toList = x from rfl] at hF
        have hq2 : (q && named x) = (named t2.word && ((wordsL t4.word).take (k + 1)).all named) := by
          obtain ⟨h1, h2⟩ := List.getElem?_eq_some_iff.1 hx
          rw [hq.out, List.take_succ_eq_append_getElem h1, h2, List.all_append, Bool.and_assoc]
          simp
        obtain ⟨bx, hbx⟩ : ∃ bx : ByteArray, (⟨x.toArray⟩ : ByteArray) = bx := ⟨_, rfl⟩
        rw [hbx] at r0 hF
        have HF := Lib.hid hF
        have HQ2 := Lib.hid hq2
        clear hF hq2 hbx hx hq hgf1
        cases q with
        | true =>
          go_wp2_with fail
          refine (HF.out _).mono ?_; rintro e w7 ⟨rfl, hb7⟩
          go_wp2_with fail
          exact ⟨⟨k + 1, _, rfl, vint (by omega), by omega, Lib.hid (by rw [← HQ2.out]; simp), hbr.trans (hb7.mono hbr.size)⟩, by simp only [intOf]; omega⟩
        | false =>
          go_wp2_with fail
          exact ⟨⟨k + 1, _, rfl, vint (by omega), by omega, Lib.hid (by rw [← HQ2.out]; simp), hbr⟩, by simp only [intOf]; omega⟩
      · have hdec : decide ((k : Int) < (nf : Int)) = false := by simpa using hkn
        have hq2 : q = (named t2.word && (wordsL t4.word).all named) := by rw [hq.out, List.take_of_length_le (by rw [HNF.out]; omega)]
        have hcb := hcb.below hbr hcb.lt
        have hbw := hb3.trans (hbr.mono hb3.size)
        have hown4 := own_below hown3 hbr
        obtain ⟨cv, sv, ov, cl, hBR, hRb, hcl, hownC, hfl, hownS, htx, hop⟩ := HR.out.below hbw
        have hcll : cl.length ≤ 1099511627 := by rw [← List.length_map (f := (·.1)), hcl]; exact hcs
        have hRlt := hRb.lt
        have hclt := hcb.lt
        have r0 := hRb.c 0 _ rfl
        have rf := hRb.fz
        have c0 := hcb.c 0 _ rfl
        have c1 := hcb.c 1 _ rfl
        have c2 := hcb.c 2 _ rfl
        have c3 := hcb.c 3 _ rfl
        have hOC := hownC.alloc (Obj.cells #[.string n2, .string sp, .slice ao nf cf, .int .i64 (at_ : Int)] CT)
        have hRbX := hRb.alloc (Obj.cells #[.string n2, .string sp, .slice ao nf cf, .int .i64 (at_ : Int)] CT)
        have hneX := cells4 wr CT (.string n2) (.string sp) (.slice ao nf cf) (.int .i64 (at_ : Int))
        have hwz := hbw.size
        have hszX : B ≤ (wr.alloc (Obj.cells #[.string n2, .string sp, .slice ao nf cf, .int .i64 (at_ : Int)] CT)).drew.heap.size := by show B ≤ (wr.alloc _).heap.size; simp; omega
        have hXb : Below w.heap.size w (wr.alloc (Obj.cells #[.string n2, .string sp, .slice ao nf cf, .int .i64 (at_ : Int)] CT)).drew := (hbw.alloc hwz _).drew
        have hXr : Below wr.heap.size wr (wr.alloc (Obj.cells #[.string n2, .string sp, .slice ao nf cf, .int .i64 (at_ : Int)] CT)).drew := ((Below.refl _ wr).alloc (Nat.le_refl _) _).drew
        obtain ⟨WX, hWX⟩ : ∃ WX, (wr.alloc (Obj.cells #[.string n2, .string sp, .slice ao nf cf, .int .i64 (at_ : Int)] CT)).drew = WX := ⟨_, rfl⟩
        replace hOC : (wr.alloc (Obj.cells #[.string n2, .string sp, .slice ao nf cf, .int .i64 (at_ : Int)] CT)).drew.ownsRow _ _ _ _ _ _ := hOC
        replace hRbX : Blk _ _ _ (wr.alloc (Obj.cells #[.string n2, .string sp, .slice ao nf cf, .int .i64 (at_ : Int)] CT)).drew := hRbX
        replace hneX : ∀ j u, [Value.string n2, .string sp, .slice ao nf cf, .int .i64 (at_ : Int)][j]? = some u → (wr.alloc (Obj.cells #[.string n2, .string sp, .slice ao nf cf, .int .i64 (at_ : Int)] CT)).drew.cell? ((⟨wr.heap.size, 0, none⟩ : Addr).add j) = some u := hneX
        have HOC := Lib.hid hOC
        have HNEW := Lib.hid hneX
        have HRB := Lib.hid hRbX
        have HB3 := Lib.hid hszX
        have HXB := Lib.hid hXb
        have HXR := Lib.hid hXr
        have HONE : Hid (∀ u ∈ [Value.string n2, .string sp, .slice ao nf cf, .int .i64 (at_ : Int)], u.oneCell' = true) := Lib.hid (by intro u hu; simp at hu; rcases hu with rfl | rfl | rfl | rfl <;> rfl)
        have HB1 : Hid (cl.length + 1 ≤ maxLen) := Lib.hid (by unfold maxLen; omega)
        have HB2 : Hid ((cl.length + 1) * 64 ≤ 140737488355328) := Lib.hid (by omega)
        clear hOC hRbX hneX hszX hXb hXr hWX WX
        clear hown3 hbr hq
        go_wp2_with fail
        go_region_law (refine step_append_own rfl (.tmp 52) (.tmp 54) 23 rfl B CT i0 (.agg #[.string ⟨#[]⟩, .string ⟨#[]⟩, .slice none 0 0, .int .i64 0]) 4 64 tsl hi hz0 hz1 hz2 rfl (by decide) cv cl.length (flatC cl) (by simp [Act.eval]) HOC.out ⟨wr.heap.size, 0, none⟩ 1 1 [.string n2, .string sp, .slice ao nf cf, .int .i64 (at_ : Int)] (by simp [Act.eval]) rfl HNEW.out HONE.out HB1.out HB2.out HB3.out ?_; intro v' w' hown' hgrow; have hRb' := blk_grown HRB.out hgrow HOC.out (by decide); obtain ⟨g', c', rfl⟩ := own_form hown' (by omega); have r0' := hRb'.c 0 _ rfl; have rf' := hRb'.fz)
        all_goals
          go_wp2_with fail
          go_ret
          have hcl2 : [Value.string n2, .string sp, .slice ao nf cf, .int .i64 (at_ : Int)] = clsV (⟨t2.word, [], wordsL t4.word, at_⟩, .slice ao nf cf) := by
            show _ = [strV t2.word, strV ([]), Value.slice ao nf cf, Value.int .i64 (at_ : Int)]
            rw [HSN.out, HSP.out]
          rw [hcl2, ← flatC_snoc] at hown'
          refine ⟨by first | rfl | rw [hq2], ((HXB.out.mono hB).grown hgrow HB3.out (fun k hk => (HOC.out.lt k hk).1)).setCell (p := ⟨R, 0, none⟩) hBR _, ((KeepC.of HXB.out).grown hgrow HOC.out).set_ hRb' 0 _, _, sv, ov, cl ++ [(⟨t2.word, [], wordsL t4.word, at_⟩, .slice ao nf cf)], hBR, hRb'.set_ 0 _ _ rfl, by rw [List.map_append, hcl]; rfl, by rw [List.length_append]; exact own_set hown' hRb' (by decide) 0 _, fun x hx => ?_, own_set (own_grown (own_below hownS HXR.out) hgrow HOC.out (by decide)) hRb' (by decide) 0 _, htx, (OpnAt.grown (hop.below HXR.out) hgrow HOC.out (by decide)).set_ hRb' (by decide) 0 _⟩
          rcases List.mem_append.1 hx with hx | hx
          · exact own_set (own_grown (own_below (hfl x hx) HXR.out) hgrow HOC.out (by decide)) hRb' (by decide) 0 _
          · rw [List.mem_singleton] at hx
            subst hx
            show (w'.setCell ⟨R, 0, none⟩ _).ownsRow B ST 1 (.slice ao nf cf) (wordsL t4.word).length ((wordsL t4.word).map strV)
            rw [← HNF.out]
            exact own_set (own_grown (own_below hown4 HXR.out) hgrow HOC.out (by decide)) hRb' (by decide) 0 _
  · rw [if_neg hnil]
    have hb : (n0.toList == [110, 105, 108]) = false := by rw [beq_eq_false_iff_ne, ByteArray.toList_eq, D0.out]; exact hnil
    have HSP : Hid (strV t0.word = .string n0) := Lib.hid (by rw [← D0.out]; unfold strV; rw [Array.toArray_toList])
    go_enter Tryz.func39, Tryz.ntmps39
    go_wp2_with fail
    go_region
    go_wp2_with fail
    have hk := Blk.made (T := CT) (cs := #[.string n2, .string n0, .slice none 0 0, .int .i64 (at_ : Int)]) w
    have hbW := ((Below.refl _ w).alloc (Nat.le_refl _) (.cells #[.string n2, .string n0, .slice none 0 0, .int .i64 (at_ : Int)] CT)).drew
    obtain ⟨W, hW⟩ : ∃ W, (w.alloc (.cells #[.string n2, .string n0, .slice none 0 0, .int .i64 (at_ : Int)] CT)).drew = W := ⟨_, rfl⟩
    have hk : Blk CT w.heap.size #[.string n2, .string n0, .slice none 0 0, .int .i64 (at_ : Int)] W := by rw [← hW]; exact hk
    rw [hW] at hbW ⊢
    clear hW hnil
    refine (HN.out _).mono ?_; rintro e w1 ⟨rfl, hb1⟩
    have hk := hk.below hb1 hk.lt
    have hb1 := hbW.trans (hb1.mono hbW.size)
    have q4 := (hb1.cell (p := ⟨g, 17, none⟩) hg).trans q4
    clear hbW q0 q2
    go_wp2_with fail
    refine (HWd.out _).mono ?_; rintro e w2 ⟨hb2, fv, rfl, hown⟩
    have hown := own_mono hown (Nat.le_trans hB hb1.size)
    obtain ⟨ao, cf, rfl, hao⟩ := own_slice hown
    obtain ⟨nf, hnf⟩ : ∃ nf, (wordsL t4.word).length = nf := ⟨_, rfl⟩
    rw [hnf] at hao ⊢
    have HNF := Lib.hid hnf
    clear hnf
    have hk := hk.below hb2 hk.lt
    have hb2 := hb1.trans (hb2.mono hb1.size)
    have e2 := hk.c 2 _ rfl
    have ef := hk.fz
    clear hb1
    go_wp2_with fail
    have hcb : Blk CT w.heap.size #[.string n2, .string n0, .slice ao nf cf, .int .i64 (at_ : Int)] (w2.setCell ⟨w.heap.size, 2, none⟩ (.slice ao nf cf)) := hk.set_ 2 _ _ rfl
    have hb3 := hb2.setCell (p := ⟨w.heap.size, 2, none⟩) (Nat.le_refl _) (.slice ao nf cf)
    have hown3 := own_set hown hk (by decide) 2 (.slice ao nf cf)
    obtain ⟨W3, hW3⟩ : ∃ W3, w2.setCell ⟨w.heap.size, 2, none⟩ (.slice ao nf cf) = W3 := ⟨_, rfl⟩
    rw [hW3] at hcb hb3 hown3 ⊢
    have hs3 : w2.heap.size = W3.heap.size := by rw [← hW3]; simp [World.setCell]
    clear hW3 hk hb2 hown e2 ef q4
    go_loopw [8, 37] (fun y z wr => ∃ (k : Nat) (q : Bool), y = .bool q ∧ z = .int .i64 (k : Int) ∧ k ≤ nf ∧ Hid (q = (named t2.word && ((wordsL t4.word).take k).all named)) ∧ Below W3.heap.size W3 wr) (fun _ z _ => nf - (intOf z).toNat)
    case atStart => exact ⟨0, _, rfl, rfl, Nat.zero_le _, Lib.hid (by simp), Below.refl _ _⟩
    case round =>
      obtain ⟨k, q, rfl, rfl, hk, hq, hbr⟩ := hrel
      by_cases hkn : k < nf
      · have hdec : decide ((k : Int) < (nf : Int)) = true := by simpa using hkn
        have hkw : IntKind.i64.wrap ((k : Int) + 1) = (k : Int) + 1 := IntWalk.i64_in _ (by have := (hao (by omega)); obtain ⟨_, _, _, _, _, h⟩ := this; unfold maxLen at h; omega)
        obtain ⟨gf, rfl, hgf1, hgf2, hgf3, hgf4⟩ := hao (by omega)
        obtain ⟨x, hx⟩ : ∃ x, (wordsL t4.word)[k]? = some x := ⟨_, List.getElem?_eq_getElem (by rw [HNF.out]; exact hkn)⟩
        have r0 := (hbr.cell (p := ⟨gf, k, none⟩) (by show gf < _; omega)).trans (strs_at (n := nf) (by rw [HNF.out] at hown3 ⊢; exact hown3) k x hx)
        have hxs := Nat.le_trans (wordsL_le _ x (List.mem_of_getElem? hx)) K4.out
        have hF := fun v : World => name_any ⟨x.toArray⟩ v (by show x.length ≤ _; omega)
        rw [show (⟨x.toArray⟩ : ByteArray).data.toList = x from rfl] at hF
        have hq2 : (q && named x) = (named t2.word && ((wordsL t4.word).take (k + 1)).all named) := by
          obtain ⟨h1, h2⟩ := List.getElem?_eq_some_iff.1 hx
          rw [hq.out, List.take_succ_eq_append_getElem h1, h2, List.all_append, Bool.and_assoc]
          simp
        obtain ⟨bx, hbx⟩ : ∃ bx : ByteArray, (⟨x.toArray⟩ : ByteArray) = bx := ⟨_, rfl⟩
        rw [hbx] at r0 hF
        have HF := Lib.hid hF
        have HQ2 := Lib.hid hq2
        clear hF hq2 hbx hx hq hgf1
        cases q with
        | true =>
          go_wp2_with fail
          refine (HF.out _).mono ?_; rintro e w7 ⟨rfl, hb7⟩
          go_wp2_with fail
          exact ⟨⟨k + 1, _, rfl, vint (by omega), by omega, Lib.hid (by rw [← HQ2.out]; simp), hbr.trans (hb7.mono hbr.size)⟩, by simp only [intOf]; omega⟩
        | false =>
          go_wp2_with fail
          exact ⟨⟨k + 1, _, rfl, vint (by omega), by omega, Lib.hid (by rw [← HQ2.out]; simp), hbr⟩, by simp only [intOf]; omega⟩
      · have hdec : decide ((k : Int) < (nf : Int)) = false := by simpa using hkn
        have hq2 : q = (named t2.word && (wordsL t4.word).all named) := by rw [hq.out, List.take_of_length_le (by rw [HNF.out]; omega)]
        have hcb := hcb.below hbr hcb.lt
        have hbw := hb3.trans (hbr.mono hb3.size)
        have hown4 := own_below hown3 hbr
        obtain ⟨cv, sv, ov, cl, hBR, hRb, hcl, hownC, hfl, hownS, htx, hop⟩ := HR.out.below hbw
        have hcll : cl.length ≤ 1099511627 := by rw [← List.length_map (f := (·.1)), hcl]; exact hcs
        have hRlt := hRb.lt
        have hclt := hcb.lt
        have r0 := hRb.c 0 _ rfl
        have rf := hRb.fz
        have c0 := hcb.c 0 _ rfl
        have c1 := hcb.c 1 _ rfl
        have c2 := hcb.c 2 _ rfl
        have c3 := hcb.c 3 _ rfl
        have hOC := hownC.alloc (Obj.cells #[.string n2, .string n0, .slice ao nf cf, .int .i64 (at_ : Int)] CT)
        have hRbX := hRb.alloc (Obj.cells #[.string n2, .string n0, .slice ao nf cf, .int .i64 (at_ : Int)] CT)
        have hneX := cells4 wr CT (.string n2) (.string n0) (.slice ao nf cf) (.int .i64 (at_ : Int))
        have hwz := hbw.size
        have hszX : B ≤ (wr.alloc (Obj.cells #[.string n2, .string n0, .slice ao nf cf, .int .i64 (at_ : Int)] CT)).drew.heap.size := by show B ≤ (wr.alloc _).heap.size; simp; omega
        have hXb : Below w.heap.size w (wr.alloc (Obj.cells #[.string n2, .string n0, .slice ao nf cf, .int .i64 (at_ : Int)] CT)).drew := (hbw.alloc hwz _).drew
        have hXr : Below wr.heap.size wr (wr.alloc (Obj.cells #[.string n2, .string n0, .slice ao nf cf, .int .i64 (at_ : Int)] CT)).drew := ((Below.refl _ wr).alloc (Nat.le_refl _) _).drew
        obtain ⟨WX, hWX⟩ : ∃ WX, (wr.alloc (Obj.cells #[.string n2, .string n0, .slice ao nf cf, .int .i64 (at_ : Int)] CT)).drew = WX := ⟨_, rfl⟩
        replace hOC : (wr.alloc (Obj.cells #[.string n2, .string n0, .slice ao nf cf, .int .i64 (at_ : Int)] CT)).drew.ownsRow _ _ _ _ _ _ := hOC
        replace hRbX : Blk _ _ _ (wr.alloc (Obj.cells #[.string n2, .string n0, .slice ao nf cf, .int .i64 (at_ : Int)] CT)).drew := hRbX
        replace hneX : ∀ j u, [Value.string n2, .string n0, .slice ao nf cf, .int .i64 (at_ : Int)][j]? = some u → (wr.alloc (Obj.cells #[.string n2, .string n0, .slice ao nf cf, .int .i64 (at_ : Int)] CT)).drew.cell? ((⟨wr.heap.size, 0, none⟩ : Addr).add j) = some u := hneX
        have HOC := Lib.hid hOC
        have HNEW := Lib.hid hneX
        have HRB := Lib.hid hRbX
        have HB3 := Lib.hid hszX
        have HXB := Lib.hid hXb
        have HXR := Lib.hid hXr
        have HONE : Hid (∀ u ∈ [Value.string n2, .string n0, .slice ao nf cf, .int .i64 (at_ : Int)], u.oneCell' = true) := Lib.hid (by intro u hu; simp at hu; rcases hu with rfl | rfl | rfl | rfl <;> rfl)
        have HB1 : Hid (cl.length + 1 ≤ maxLen) := Lib.hid (by unfold maxLen; omega)
        have HB2 : Hid ((cl.length + 1) * 64 ≤ 140737488355328) := Lib.hid (by omega)
        clear hOC hRbX hneX hszX hXb hXr hWX WX
        clear hown3 hbr hq
        go_wp2_with fail
        go_region_law (refine step_append_own rfl (.tmp 52) (.tmp 54) 23 rfl B CT i0 (.agg #[.string ⟨#[]⟩, .string ⟨#[]⟩, .slice none 0 0, .int .i64 0]) 4 64 tsl hi hz0 hz1 hz2 rfl (by decide) cv cl.length (flatC cl) (by simp [Act.eval]) HOC.out ⟨wr.heap.size, 0, none⟩ 1 1 [.string n2, .string n0, .slice ao nf cf, .int .i64 (at_ : Int)] (by simp [Act.eval]) rfl HNEW.out HONE.out HB1.out HB2.out HB3.out ?_; intro v' w' hown' hgrow; have hRb' := blk_grown HRB.out hgrow HOC.out (by decide); obtain ⟨g', c', rfl⟩ := own_form hown' (by omega); have r0' := hRb'.c 0 _ rfl; have rf' := hRb'.fz)
        all_goals
          go_wp2_with fail
          go_ret
          have hcl2 : [Value.string n2, .string n0, .slice ao nf cf, .int .i64 (at_ : Int)] = clsV (⟨t2.word, t0.word, wordsL t4.word, at_⟩, .slice ao nf cf) := by
            show _ = [strV t2.word, strV (t0.word), Value.slice ao nf cf, Value.int .i64 (at_ : Int)]
            rw [HSN.out, HSP.out]
          rw [hcl2, ← flatC_snoc] at hown'
          refine ⟨by first | rfl | rw [hq2], ((HXB.out.mono hB).grown hgrow HB3.out (fun k hk => (HOC.out.lt k hk).1)).setCell (p := ⟨R, 0, none⟩) hBR _, ((KeepC.of HXB.out).grown hgrow HOC.out).set_ hRb' 0 _, _, sv, ov, cl ++ [(⟨t2.word, t0.word, wordsL t4.word, at_⟩, .slice ao nf cf)], hBR, hRb'.set_ 0 _ _ rfl, by rw [List.map_append, hcl]; rfl, by rw [List.length_append]; exact own_set hown' hRb' (by decide) 0 _, fun x hx => ?_, own_set (own_grown (own_below hownS HXR.out) hgrow HOC.out (by decide)) hRb' (by decide) 0 _, htx, (OpnAt.grown (hop.below HXR.out) hgrow HOC.out (by decide)).set_ hRb' (by decide) 0 _⟩
          rcases List.mem_append.1 hx with hx | hx
          · exact own_set (own_grown (own_below (hfl x hx) HXR.out) hgrow HOC.out (by decide)) hRb' (by decide) 0 _
          · rw [List.mem_singleton] at hx
            subst hx
            show (w'.setCell ⟨R, 0, none⟩ _).ownsRow B ST 1 (.slice ao nf cf) (wordsL t4.word).length ((wordsL t4.word).map strV)
            rw [← HNF.out]
            exact own_set (own_grown (own_below hown4 HXR.out) hgrow HOC.out (by decide)) hRb' (by decide) 0 _
end Ck
end Go.Proofs.YthdigbkcffihkaaGreatDoor
