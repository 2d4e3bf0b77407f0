/- Chapters 08 and 17, the walk, 10: Bits.Set; heap's lay. -/
import Derived.Test.YtojblndlchcjeaaHpW9
import Derived.Test.YtojblndlchcjeaaHpMap
import Derived.WideMake
set_option linter.unusedVariables false
namespace Go.Proofs.Ytojblndlchcjeaa
open Go.RowKit
namespace Hp
open Bs Sm
set_option maxHeartbeats 1600000 in
theorem bset_ok (sb wb n i : Nat) (ws : List Nat) (S : Nat → Bool) (w : World) (hm : BitsM sb wb n ws w) (hS : BitsOf S n ws) (hn : n ≤ 16777216) (hi : i < n) (hf : S i = false) :
    Calls Try.prog 65 #[.pointer (some ⟨sb, 0, none⟩), .int .i64 (i : Int), .bool true] w
      (fun e w' => e = .returned (.bool true) ∧ ∃ ws', BitsM sb wb n ws' w' ∧ BitsOf (fun j => S j || j == i) n ws' ∧ ws'.length = ws.length ∧ But (fun b => b = wb) w w') := by
  have HP := Lib.hid (place_in sb wb n i ws w hm hi hn)
  obtain ⟨hx, hk⟩ := hS.get hi
  have hbit := and_bit (ws.getD (i / 64) 0) (i % 64) (hS.word_lt _) (Nat.mod_lt _ (by omega))
  rw [hS.bit i hi, hf] at hbit
  have hxor := u64xor (ws.getD (i / 64) 0) (2 ^ (i % 64)) (hS.word_lt _) (Nat.pow_lt_pow_right (by omega) (Nat.mod_lt _ (by omega)))
  have hset := hS.set i hi hf
  obtain ⟨x, hxx⟩ : ∃ x, ws.getD (i / 64) 0 = x := ⟨_, rfl⟩
  obtain ⟨p, hp⟩ : ∃ p, 2 ^ (i % 64) = p := ⟨_, rfl⟩
  obtain ⟨k, hkk⟩ : ∃ k, i / 64 = k := ⟨_, rfl⟩
  rw [hxx, hp] at hxor hset hbit
  rw [hxx] at hx
  rw [hp] at HP
  rw [hkk] at hx hk HP hset
  have hbit2 : (bits .and .u64 (x : Int) (p : Int) == 0) = true := by
    rw [bne, Bool.not_eq_false'] at hbit
    exact hbit
  have HM := Lib.hid hm
  have hK : (k : Int) < (ws.length : Int) := by omega
  have HX := Lib.hid hx
  have HR : Hid (∀ (w1 : World), BitsM sb wb n ws w1 → BitsM sb wb n (ws.set k (x ^^^ p)) (w1.setCell ⟨wb, k, none⟩ (uV (x ^^^ p)))) := Lib.hid (fun w1 h1 => by
    refine ⟨?_, h1.rs.set_ k _ _ (row_set ws k _)⟩
    rw [List.length_set]
    exact h1.st.far (blk_ne h1.st h1.rs bt_ut) _)
  have HS := Lib.hid hset
  obtain ⟨y, hy⟩ : ∃ y, x ^^^ p = y := ⟨_, rfl⟩
  rw [hy] at hxor HR HS
  unfold uV at HP HR
  clear hm hS hn hi hf hset hx hxx hp hkk hy
  go_enter Try.func65, Try.ntmps65
  go_wp2_with fail
  refine HP.out.mono ?_; rintro e w1 ⟨rfl, hb1⟩
  have hm1 := HM.out.bel hb1
  have c1 := hm1.st.c 1 _ rfl
  have cr := hm1.rs.c k _ (row_get HX.out)
  have fz := hm1.rs.fz
  unfold uV at cr
  have HB := Lib.hid hb1
  have HM1 := Lib.hid hm1
  clear hm1 hb1
  go_wp2_with fail
  go_ret
  exact ⟨rfl, _, HR.out w1 HM1.out, HS.out, by rw [List.length_set], (But.of HB.out).set_ (X := fun b => b = wb) (k := wb) rfl _ _⟩
/-! ### lay -/
theorem end_app : ∀ (l r : List Ob) (a : Nat), endL a (l ++ r) = endL (endL a l) r
  | [], _, _ => rfl
  | o :: l, r, a => by
    show endL (a + 2 + cellsL o.hd) (l ++ r) = endL (endL (a + 2 + cellsL o.hd) l) r
    exact end_app l r _
theorem end_le : ∀ (l : List Ob) (a : Nat), a ≤ endL a l
  | [], a => Nat.le_refl _
  | o :: l, a => by
    show a ≤ endL (a + 2 + cellsL o.hd) l
    have := end_le l (a + 2 + cellsL o.hd)
    omega
theorem len_end : ∀ (l : List Ob) (a : Nat), a + 2 * l.length ≤ endL a l
  | [], a => Nat.le_refl _
  | o :: l, a => by
    show a + 2 * (l.length + 1) ≤ endL (a + 2 + cellsL o.hd) l
    have := len_end l (a + 2 + cellsL o.hd)
    omega
/-- The k-th object lies where the first k end. -/
theorem at_take {l : List Ob} {a k : Nat} {o : Ob} (hc : Chain a l) (h : l[k]? = some o) : o.at_ = endL a (l.take k) ∧ endL a (l.take (k + 1)) = o.at_ + 2 + cellsL o.hd ∧ endL a (l.take (k + 1)) ≤ endL a l := by
  obtain ⟨h1, h2⟩ := List.getElem?_eq_some_iff.1 h
  have e : l.take (k + 1) = l.take k ++ [o] := by rw [List.take_succ_eq_append_getElem h1, h2]
  have ea : o.at_ = endL a (l.take k) := by
    have hc2 : Chain a (l.take k ++ l.drop k) := by rw [List.take_append_drop]; exact hc
    have := ((chain_app _ _ _).1 hc2).2
    rw [List.drop_eq_getElem_cons h1, h2] at this
    exact this.1
  refine ⟨ea, ?_, ?_⟩
  · rw [e, end_app, ← ea]; rfl
  · have : endL a l = endL (endL a (l.take (k + 1))) (l.drop (k + 1)) := by rw [← end_app, List.take_append_drop]
    rw [this]; exact end_le _ _
theorem start_take {l : List Ob} {a k : Nat} {o : Ob} (hc : Chain a l) (h : l[k]? = some o) : startB (l.take k) o.at_ = false ∧ (fun j => startB (l.take k) j || j == o.at_) = startB (l.take (k + 1)) := by
  obtain ⟨h1, h2⟩ := List.getElem?_eq_some_iff.1 h
  refine ⟨?_, ?_⟩
  · cases hb : startB (l.take k) o.at_ with
    | false => rfl
    | true =>
      obtain ⟨i, x, hx, hxa⟩ := (start_iff _ _).1 hb
      rw [List.getElem?_take] at hx
      split at hx
      · rename_i hik
        have := chain_lt l a hc i k x o hx h hik
        omega
      · cases hx
  · rw [List.take_succ_eq_append_getElem h1, h2]
    exact (alloc_start _ _).symm
abbrev SMT : Nat := 161
/-- While the k-th object is looked at. -/
structure LayInv (B : Bks) (N : Nat) (l : List Ob) (last mb k m : Nat) (w w' : World) : Prop where
  hp : Blk HT B.h #[.slice (some ⟨B.c, 0, none⟩) N N, .int .i64 (endL 2 l : Nat), .pointer (some ⟨B.s, 0, none⟩), .int .u32 (last : Int)] w'
  rc : Blk WT B.c (rowA (cellsN N l)) w'
  bs : ∃ ws, BitsM B.s B.b N ws w' ∧ BitsOf (startB (l.take k)) N ws
  mp : ∃ f g, MapB Try.prog 29 4 .u32 mb m f g w'
  mn : w.heap.size ≤ mb
  but : But (fun b => b = B.b) w w'
theorem LayInv.bel {B : Bks} {N : Nat} {l : List Ob} {last mb k m : Nat} {w w' w'' : World} (h : LayInv B N l last mb k m w w') (hb : Below w'.heap.size w' w'') : LayInv B N l last mb k m w w'' := by
  obtain ⟨h1, h2, ⟨ws, h3, h4⟩, ⟨f, g, h5⟩, h7, h6⟩ := h
  exact ⟨h1.below hb h1.lt, h2.below hb h2.lt, ⟨ws, h3.bel hb, h4⟩, ⟨f, g, h5.bel hb⟩, h7, h6.then_bel hb⟩
theorem But.grown {X : Nat → Prop} {w w' w'' : World} {mb : Nat} (h : But X w w') (hg : w'.grownBy w'' (some mb)) (hm : w.heap.size ≤ mb) : But X w w'' :=
  ⟨hg.os.trans h.os, hg.tape.trans h.tape, hg.output.trans h.output, Nat.le_trans h.size hg.size, fun b hb hx => (hg.block b (Nat.lt_of_lt_of_le hb h.size) (fun e2 => by have := Option.some.inj e2; omega)).trans (h.block b hb hx)⟩
theorem map_ty : Try.prog.underlying SMT = some (.map 29 4) := by kernel_rfl
theorem u32_ty : Try.prog.underlying 29 = some (.int .u32) := by kernel_rfl
theorem bool_ty : Try.prog.underlying 4 = some .bool := by kernel_rfl
theorem own_map_ne {T k mb n : Nat} {cs : Array Value} {kt et : TypeId} {qk : IntKind} {f g : Int → Bool} {w : World} {P : Program} (h : MapB P kt et qk mb n f g w) (hk : Blk T k cs w) : k ≠ mb := by
  rintro rfl
  obtain ⟨D, ⟨es, c, h1, _⟩, _⟩ := h
  unfold Blk at hk
  rw [h1] at hk
  cases hk
set_option maxRecDepth 100000 in
set_option maxHeartbeats 6400000 in
theorem lay_ok (B : Bks) (N : Nat) (l : List Ob) (last : Nat) (w : World) (hf : Fine N l last) (h0 : ∀ o ∈ l, o.hd.hash = 0) (hR : Raw B (cellsN N l) (endL 2 l) (List.replicate (nwL N) 0) last w) :
    Calls Try.prog 72 #[.pointer (some ⟨B.h, 0, none⟩)] w (fun e w' => e = .returned (.bool true) ∧ Mem B N l last w' ∧ But (fun b => b = B.b) w w') := by
  have hlen := hf.len
  have hmm := Go.run_makeMap_plain (P := Try.prog) w SMT
  obtain ⟨W1, hal1⟩ : ∃ W1, w.alloc (.map #[] 0) = W1 := ⟨_, rfl⟩
  have b1 : Below w.heap.size w W1 := by rw [← hal1]; exact alloc_bel _ _
  have hI1 : LayInv B N l last w.heap.size 0 0 w W1 := by
    have hR1 := hR.bel b1
    refine ⟨by have := hR1.hp; rw [hlen] at this; exact this, hR1.rc, ⟨_, by have := hR1.bs; rw [hlen] at this; exact this, by rw [List.take_zero]; exact bits_none N⟩, ⟨fun _ => false, fun _ => false, ?_⟩, Nat.le_refl _, But.of b1⟩
    rw [← hal1]
    exact MapOf.made w _ _ _ _ _ _ _
  obtain ⟨mb, hmb⟩ : ∃ mb, w.heap.size = mb := ⟨_, rfl⟩
  rw [hmb] at hI1 hmm
  have HI1 := Lib.hid hI1
  have HF := Lib.hid hf
  have HH0 := Lib.hid h0
  have HMB := Lib.hid hmb
  have HNN := Lib.hid hf.hi
  have HLN : Hid (l.length ≤ 16777216) := Lib.hid (by have := len_end l 2; have := hf.fit; have := hf.hi; omega)
  clear hI1 b1 hR hlen hf h0
  rw [hal1] at hmm
  clear hmb
  go_enter Try.func72, Try.ntmps72
  go_wp2_with fail
  go_loopw [4] (fun y wr => ∃ k : Nat, y = .int .i64 (endL 2 (l.take k) : Nat) ∧ k ≤ l.length ∧ Hid (LayInv B N l last mb k k w wr)) (fun y _ => endL 2 l - (intOf y).toNat)
  case atStart => exact ⟨0, rfl, Nat.zero_le _, HI1⟩
  case round =>
    obtain ⟨k, rfl, hk, hI⟩ := hrel
    by_cases hkl : k < l.length
    · obtain ⟨o, ho⟩ : ∃ o, l[k]? = some o := ⟨_, List.getElem?_eq_getElem hkl⟩
      obtain ⟨ha, hen, hle⟩ := at_take HF.out.ch ho
      have hst := start_take HF.out.ch ho
      have hplt := place_lt HF.out ho
      have hok := HF.out.ok o (List.mem_of_getElem? ho)
      have hok2 := (okB_iff _).1 hok.hd
      have hx0 := HH0.out o (List.mem_of_getElem? ho)
      have HU := Lib.hid (fun w => unpack_ok o.hd hok.hd hok.cls w)
      have HCL := Lib.hid (fun w => cells_ok o.hd hok.hd hok.cls w)
      obtain ⟨x0, x1, xb⟩ := cells_at HF.out.ch HF.out.ok ho (List.replicate (N - endL 2 l) 0)
      have hrest := fun hk2 hr => body_rest hok hk2 hr
      have hcl : cellsL o.hd = if o.hd.kind = 2 then (o.hd.size + 7) / 8 else o.hd.size := rfl
      have r0 := hI.out.rc.c o.at_ _ (row_get (show (cellsN N l)[o.at_]? = some o.hd.cls from x0))
      have r1 := hI.out.rc.c (o.at_ + 1) _ (row_get (show (cellsN N l)[o.at_ + 1]? = some (infoL o.hd) from x1))
      have e0 := hI.out.hp.c 0 _ rfl
      have e1 := hI.out.hp.c 1 _ rfl
      have e2 := hI.out.hp.c 2 _ rfl
      rw [← ha]
      rw [hen] at hle
      have HST := Lib.hid hst
      obtain ⟨n, hn⟩ : ∃ n, cellsL o.hd = n := ⟨_, rfl⟩
      have HXB : Hid (∀ j u, (bodyW o)[j]? = some u → (cellsN N l)[o.at_ + 2 + j]? = some u) := Lib.hid xb
      rw [hn] at hen hplt HCL hcl hle
      have HRS : Hid (o.hd.kind = 2 → 0 < o.hd.size % 8 → ∃ u, (cellsN N l)[o.at_ + 2 + n - 1]? = some u ∧ u < 256 ^ (o.hd.size % 8)) := Lib.hid (fun hk2 hr => by
        obtain ⟨u, hu1, hu2⟩ := hrest hk2 hr
        have hn0 : 0 < n := by rw [hcl, if_pos hk2]; omega
        rw [hn] at hu1
        refine ⟨u, ?_, hu2⟩
        rw [show o.at_ + 2 + n - 1 = o.at_ + 2 + (n - 1) by omega]
        exact HXB.out _ _ hu1)
      have HEN : Hid (endL 2 (l.take (k + 1)) = o.at_ + 2 + n) := Lib.hid hen
      unfold uV at r0 r1
      obtain ⟨a, haa⟩ : ∃ a, o.at_ = a := ⟨_, rfl⟩
      obtain ⟨i0, hi0⟩ : ∃ i, infoL o.hd = i := ⟨_, rfl⟩
      rw [haa] at r0 r1 hplt hle HST HRS HEN ⊢
      rw [hi0] at r1 HU
      obtain ⟨E, hE⟩ : ∃ E, endL 2 l = E := ⟨_, rfl⟩
      have hEN := HF.out.fit
      rw [hE] at e1 hle hEN ⊢
      have HE := Lib.hid hE
      have HaN := Lib.hid (show a < N by omega)
      obtain ⟨⟨c, ks, kz, kx, km⟩, hH⟩ : ∃ h, o.hd = h := ⟨_, rfl⟩
      rw [hH] at HU HCL hcl hok2 hx0 HRS r0
      dsimp only at hcl hok2 hx0 HRS r0
      subst hx0
      unfold hdV uV at HU HCL
      dsimp only at HU HCL
      have n0 : (a : Int) < (E : Int) := by omega
      have n0' : decide ((a : Int) < (E : Int)) = true := decide_eq_true n0
      have n0'' : decide (a < E) = true := decide_eq_true (by omega)
      have n1 : (a : Int) + 2 + (n : Int) ≤ (E : Int) := by omega
      have n2 : (E : Int) ≤ (N : Int) := by omega
      have n3 : (N : Int) ≤ 16777216 := by have := HNN.out; omega
      have n4 : (kz : Int) ≤ 1048576 := by omega
      have hq1 : IntKind.i64.wrap ((E : Int) - (a : Int)) = (E : Int) - (a : Int) := by rw [IntKind.wrap_i64]; omega
      have hq2 : IntKind.i64.wrap ((E : Int) - (a : Int) - 2) = (E : Int) - (a : Int) - 2 := by rw [IntKind.wrap_i64]; omega
      have hq3 : decide ((E : Int) - (a : Int) - 2 < (n : Int)) = false := decide_eq_false (by omega)
      have hq4 : ((0 : Int) == 0) = true := rfl
      have hart : ∀ w, Sem.run Try.prog (Instr.arrayAt ART (.slice (some ⟨B.c, a, none⟩) 2 (N - a))) w = .ok (.pointer (some ⟨B.c, a, none⟩)) w := fun w => run_arrayAt w ART _ 2 _ 2 (N - a) (show Try.prog.underlying ART = some (.array 2 WT) by kernel_rfl) (Nat.le_refl _)
      have HCLs := Lib.hid hcl
      have hkk2 : ks ≤ 2 := hok2.2.2.2.2
      clear ha hen hst hplt hok hok2 x0 x1 xb hrest hn haa hi0 hE hH ho hle hcl hEN
      by_cases h2 : ks = 2
      · subst h2
        have HCL2 := HCL
        clear HCL
        have HCL : Hid (∀ w, Calls Try.prog 63 #[.agg #[.int .u64 (c : Int), .int .i64 2, .int .i64 (kz : Int), .int .u32 0, .bool km]] w (Back (.int .i64 (n : Int)) w)) := Lib.hid HCL2.out
        have HU2 := HU
        clear HU
        have HU : Hid (∀ w, Calls Try.prog 75 #[.agg #[.int .u64 (c : Int), .int .u64 (i0 : Int)]] w (Back (.tuple #[.agg #[.int .u64 (c : Int), .int .i64 2, .int .i64 (kz : Int), .int .u32 0, .bool km], .int .i64 0]) w)) := Lib.hid HU2.out
        clear HU2 HCL2
        go_wp2_with fail
        refine (HU.out _).mono ?_; rintro e w2 ⟨rfl, hb2⟩
        obtain ⟨W3, hal3⟩ : ∃ W3, w2.alloc (.cells #[.int .u64 (c : Int), .int .i64 2, .int .i64 (kz : Int), .int .u32 0, .bool km] HDT) = W3 := ⟨_, rfl⟩
        have b3 : Below w2.heap.size w2 W3 := by rw [← hal3]; exact alloc_bel _ _
        have qD : Blk HDT w2.heap.size #[.int .u64 (c : Int), .int .i64 2, .int .i64 (kz : Int), .int .u32 0, .bool km] W3 := by rw [← hal3]; exact Blk.made _
        have d0 := qD.c 0 _ rfl
        have d1 := qD.c 1 _ rfl
        have d2 := qD.c 2 _ rfl
        have d3 := qD.c 3 _ rfl
        have d4 := qD.c 4 _ rfl
        have HI3 := Lib.hid (hI.out.bel (hb2.trans (b3.mono hb2.size)))
        have QD := Lib.hid qD
        clear hb2 b3 qD e0 e1 e2 r0 r1
        go_wp2_with fail
        refine (HCL.out _).mono ?_; rintro e w4 ⟨rfl, hb4⟩
        have HI4 := Lib.hid (HI3.out.bel hb4)
        have QD4 := Lib.hid (QD.out.below hb4 QD.out.lt)
        have e1 := HI4.out.hp.c 1 _ rfl
        rw [HE.out] at e1
        have e3 := HI4.out.hp.c 3 _ rfl
        have t1 := QD4.out.c 1 _ rfl
        have t2 := QD4.out.c 2 _ rfl
        have t3 := QD4.out.c 3 _ rfl
        clear hb4 HI3 QD d0 d1 d2 d3 d4
        go_wp2_with fail
        go_quiet (fail)
        have HI5 := Lib.hid (HI4.out.bel (below_drewN w4 nq))
        have QD5 := Lib.hid (QD4.out.below (below_drewN w4 nq) QD4.out.lt)
        obtain ⟨f5, g5, hmp5⟩ := HI5.out.mp
        obtain ⟨w6, hrun, hmp6, hg6⟩ := hmp5.put u32_ty map_ty bool_ty (by have := HLN.out; unfold maxLen; omega) 0 (by decide) true
        have hne1 := own_map_ne hmp5 HI5.out.hp
        have hne2 := own_map_ne hmp5 HI5.out.rc
        have hne3 := own_map_ne hmp5 QD5.out
        have HI7 : Hid (LayInv B N l last mb k (k + 1) w w6) := by
          obtain ⟨q1, q2, ⟨ws, q3, q4⟩, -, q5, q6⟩ := HI5.out
          have n3 := own_map_ne hmp5 q3.st
          have n4 := own_map_ne hmp5 q3.rs
          have kp : ∀ {T j : Nat} {cs : Array Value}, Blk T j cs (w4.drewN nq) → j ≠ mb → Blk T j cs w6 := fun hb hj => (hg6.block _ hb.lt (fun e => hj (Option.some.inj e))).trans hb
          exact Lib.hid ⟨kp q1 hne1, kp q2 hne2, ⟨ws, ⟨kp q3.st n3, kp q3.rs n4⟩, q4⟩, ⟨_, _, hmp6⟩, q5, q6.grown hg6 q5⟩
        have QD7 : Hid (Blk HDT w2.heap.size #[.int .u64 (c : Int), .int .i64 2, .int .i64 (kz : Int), .int .u32 0, .bool km] w6) := Lib.hid ((hg6.block _ QD5.out.lt (fun e => hne3 (Option.some.inj e))).trans QD5.out)
        have u1 := QD7.out.c 1 _ rfl
        have u2 := QD7.out.c 2 _ rfl
        have v0 := HI7.out.hp.c 0 _ rfl
        have v2 := HI7.out.hp.c 2 _ rfl
        clear hmp5 hmp6 hg6 hne1 hne2 hne3 HI5 QD5 HI4 QD4 t1 t2 e1 e3
        by_cases hr : kz % 8 = 0
        · have t0 : decide ((0 : Int) < (kz : Int) % 8) = false := decide_eq_false (by omega)
          have t1 : (kz : Int) % 8 = 0 := by omega
          clear hr
          go_wp2_with fail
          obtain ⟨ws7, hm7, hS7⟩ := HI7.out.bs
          refine (bset_ok B.s B.b N a ws7 (startB (l.take k)) _ hm7 hS7 HNN.out HaN.out HST.out.1).mono ?_; rintro e w8 ⟨rfl, ws8, hm8, hS8, -, hbt⟩
          rw [HST.out.2] at hS8
          have q7 := HI7.out
          have hne1 : B.h ≠ B.b := blk_ne q7.hp hm7.rs ht_ut
          have hne2 : B.c ≠ B.b := blk_ne q7.rc hm7.rs wt_ut
          obtain ⟨f7, g7, hmp7⟩ := q7.mp
          have hne3 : mb ≠ B.b := fun h => own_map_ne hmp7 hm7.rs h.symm
          have HI8 : Hid (LayInv B N l last mb (k + 1) (k + 1) w w8) := Lib.hid ⟨hbt.blk q7.hp hne1, hbt.blk q7.rc hne2, ⟨ws8, hm8, hS8⟩, ⟨f7, g7, hmp7.block (hbt.block mb hmp7.lt hne3)⟩, q7.mn, q7.but.trans hbt⟩
          clear hm7 hS7 hm8 hS8 hbt q7 hmp7 hne1 hne2 hne3
          go_wp2_with fail
          refine ⟨⟨k + 1, vint (by rw [HEN.out]; omega), by omega, HI8⟩, ?_⟩
          have := HEN.out
          simp only [intOf]
          omega
        · have t0 : decide ((0 : Int) < (kz : Int) % 8) = true := decide_eq_true (by omega)
          have t0' : decide (0 < kz % 8) = true := decide_eq_true (by omega)
          have t0'' : (0 : Int) < (kz : Int) % 8 := by omega
          obtain ⟨u, hu1, hu2⟩ := HRS.out (by trivial) (by omega)
          have hn0 : 0 < n := by have := HCLs.out; rw [if_pos (by trivial)] at this; omega
          have v5 := HI7.out.rc.c (a + 1 + n) _ (row_get (show (cellsN N l)[a + 1 + n]? = some u by rw [← hu1]; congr 1; omega))
          unfold uV at v5
          have hsh : (u : Int) / 2 ^ (8 * (kz % 8)) = 0 := by
            have e1 : u / 2 ^ (8 * (kz % 8)) = 0 := Nat.div_eq_of_lt (by rw [Nat.pow_mul]; exact hu2)
            have e2 : ((u / 2 ^ (8 * (kz % 8)) : Nat) : Int) = (u : Int) / 2 ^ (8 * (kz % 8)) := by simp
            rw [← e2, e1]; rfl
          clear hr hu1 hu2
          go_wp2_with fail
          obtain ⟨ws7, hm7, hS7⟩ := HI7.out.bs
          refine (bset_ok B.s B.b N a ws7 (startB (l.take k)) _ hm7 hS7 HNN.out HaN.out HST.out.1).mono ?_; rintro e w8 ⟨rfl, ws8, hm8, hS8, -, hbt⟩
          rw [HST.out.2] at hS8
          have q7 := HI7.out
          have hne1 : B.h ≠ B.b := blk_ne q7.hp hm7.rs ht_ut
          have hne2 : B.c ≠ B.b := blk_ne q7.rc hm7.rs wt_ut
          obtain ⟨f7, g7, hmp7⟩ := q7.mp
          have hne3 : mb ≠ B.b := fun h => own_map_ne hmp7 hm7.rs h.symm
          have HI8 : Hid (LayInv B N l last mb (k + 1) (k + 1) w w8) := Lib.hid ⟨hbt.blk q7.hp hne1, hbt.blk q7.rc hne2, ⟨ws8, hm8, hS8⟩, ⟨f7, g7, hmp7.block (hbt.block mb hmp7.lt hne3)⟩, q7.mn, q7.but.trans hbt⟩
          clear hm7 hS7 hm8 hS8 hbt q7 hmp7 hne1 hne2 hne3
          go_wp2_with fail
          refine ⟨⟨k + 1, vint (by rw [HEN.out]; omega), by omega, HI8⟩, ?_⟩
          have := HEN.out
          simp only [intOf]
          omega
      · have hkb : ((ks : Int) == 2) = false := by simp; omega
        clear h2
        go_wp2_with fail
        refine (HU.out _).mono ?_; rintro e w2 ⟨rfl, hb2⟩
        obtain ⟨W3, hal3⟩ : ∃ W3, w2.alloc (.cells #[.int .u64 (c : Int), .int .i64 (ks : Int), .int .i64 (kz : Int), .int .u32 0, .bool km] HDT) = W3 := ⟨_, rfl⟩
        have b3 : Below w2.heap.size w2 W3 := by rw [← hal3]; exact alloc_bel _ _
        have qD : Blk HDT w2.heap.size #[.int .u64 (c : Int), .int .i64 (ks : Int), .int .i64 (kz : Int), .int .u32 0, .bool km] W3 := by rw [← hal3]; exact Blk.made _
        have d0 := qD.c 0 _ rfl
        have d1 := qD.c 1 _ rfl
        have d2 := qD.c 2 _ rfl
        have d3 := qD.c 3 _ rfl
        have d4 := qD.c 4 _ rfl
        have HI3 := Lib.hid (hI.out.bel (hb2.trans (b3.mono hb2.size)))
        have QD := Lib.hid qD
        clear hb2 b3 qD e0 e1 e2 r0 r1
        go_wp2_with fail
        refine (HCL.out _).mono ?_; rintro e w4 ⟨rfl, hb4⟩
        have HI4 := Lib.hid (HI3.out.bel hb4)
        have QD4 := Lib.hid (QD.out.below hb4 QD.out.lt)
        have e1 := HI4.out.hp.c 1 _ rfl
        rw [HE.out] at e1
        have e3 := HI4.out.hp.c 3 _ rfl
        have t1 := QD4.out.c 1 _ rfl
        have t2 := QD4.out.c 2 _ rfl
        have t3 := QD4.out.c 3 _ rfl
        clear hb4 HI3 QD d0 d1 d2 d3 d4
        go_wp2_with fail
        go_quiet (fail)
        have HI5 := Lib.hid (HI4.out.bel (below_drewN w4 nq))
        have QD5 := Lib.hid (QD4.out.below (below_drewN w4 nq) QD4.out.lt)
        obtain ⟨f5, g5, hmp5⟩ := HI5.out.mp
        obtain ⟨w6, hrun, hmp6, hg6⟩ := hmp5.put u32_ty map_ty bool_ty (by have := HLN.out; unfold maxLen; omega) 0 (by decide) true
        have hne1 := own_map_ne hmp5 HI5.out.hp
        have hne2 := own_map_ne hmp5 HI5.out.rc
        have hne3 := own_map_ne hmp5 QD5.out
        have HI7 : Hid (LayInv B N l last mb k (k + 1) w w6) := by
          obtain ⟨q1, q2, ⟨ws, q3, q4⟩, -, q5, q6⟩ := HI5.out
          have n3 := own_map_ne hmp5 q3.st
          have n4 := own_map_ne hmp5 q3.rs
          have kp : ∀ {T j : Nat} {cs : Array Value}, Blk T j cs (w4.drewN nq) → j ≠ mb → Blk T j cs w6 := fun hb hj => (hg6.block _ hb.lt (fun e => hj (Option.some.inj e))).trans hb
          exact Lib.hid ⟨kp q1 hne1, kp q2 hne2, ⟨ws, ⟨kp q3.st n3, kp q3.rs n4⟩, q4⟩, ⟨_, _, hmp6⟩, q5, q6.grown hg6 q5⟩
        have QD7 : Hid (Blk HDT w2.heap.size #[.int .u64 (c : Int), .int .i64 (ks : Int), .int .i64 (kz : Int), .int .u32 0, .bool km] w6) := Lib.hid ((hg6.block _ QD5.out.lt (fun e => hne3 (Option.some.inj e))).trans QD5.out)
        have u1 := QD7.out.c 1 _ rfl
        have u2 := QD7.out.c 2 _ rfl
        have v0 := HI7.out.hp.c 0 _ rfl
        have v2 := HI7.out.hp.c 2 _ rfl
        clear hmp5 hmp6 hg6 hne1 hne2 hne3 HI5 QD5 HI4 QD4 t1 t2 e1 e3
        go_wp2_with fail
        obtain ⟨ws7, hm7, hS7⟩ := HI7.out.bs
        refine (bset_ok B.s B.b N a ws7 (startB (l.take k)) _ hm7 hS7 HNN.out HaN.out HST.out.1).mono ?_; rintro e w8 ⟨rfl, ws8, hm8, hS8, -, hbt⟩
        rw [HST.out.2] at hS8
        have q7 := HI7.out
        have hne1 : B.h ≠ B.b := blk_ne q7.hp hm7.rs ht_ut
        have hne2 : B.c ≠ B.b := blk_ne q7.rc hm7.rs wt_ut
        obtain ⟨f7, g7, hmp7⟩ := q7.mp
        have hne3 : mb ≠ B.b := fun h => own_map_ne hmp7 hm7.rs h.symm
        have HI8 : Hid (LayInv B N l last mb (k + 1) (k + 1) w w8) := Lib.hid ⟨hbt.blk q7.hp hne1, hbt.blk q7.rc hne2, ⟨ws8, hm8, hS8⟩, ⟨f7, g7, hmp7.block (hbt.block mb hmp7.lt hne3)⟩, q7.mn, q7.but.trans hbt⟩
        clear hm7 hS7 hm8 hS8 hbt q7 hmp7 hne1 hne2 hne3
        go_wp2_with fail
        refine ⟨⟨k + 1, vint (by rw [HEN.out]; omega), by omega, HI8⟩, ?_⟩
        have := HEN.out
        simp only [intOf]
        omega
    · obtain rfl : k = l.length := by omega
      rw [List.take_of_length_le (Nat.le_refl _)]
      have e1 := hI.out.hp.c 1 _ rfl
      obtain ⟨E, hE⟩ : ∃ E, endL 2 l = E := ⟨_, rfl⟩
      rw [hE] at e1 ⊢
      have n0' : decide ((E : Int) < (E : Int)) = false := by simp
      clear hE
      have HIe := hI
      clear hI
      go_wp2_with fail
      go_ret
      obtain ⟨q1, q2, ⟨ws, q3, q4⟩, -, -, q6⟩ := HIe.out
      rw [List.take_of_length_le (Nat.le_refl _)] at q4
      have hl := HF.out.len
      exact ⟨rfl, ⟨HF.out, ws, q4, ⟨by rw [hl]; exact q1, q2, by rw [hl]; exact q3⟩⟩, q6⟩
end Hp
end Go.Proofs.Ytojblndlchcjeaa
