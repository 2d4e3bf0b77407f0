/- Chapters 08 and 17, the walk, 4: Bits.Has; heap's at, Has, head, Head. -/
import Derived.Test.YtojblndlchcjeaaHpAh
import Derived.Test.YtojblndlchcjeaaHpAa
set_option linter.unusedVariables false
namespace Go.Proofs.Ytojblndlchcjeaa
open Go.RowKit
namespace Hp
open Bs Sm
theorem BitsOf.word_lt {S : Nat → Bool} {n : Nat} {ws : List Nat} (h : BitsOf S n ws) (k : Nat) : ws.getD k 0 < 2 ^ 64 := by
  rw [List.getD_eq_getElem?_getD]
  cases e : ws[k]? with
  | none => exact Nat.two_pow_pos 64
  | some x => exact h.lt x (List.mem_of_getElem? e)
theorem BitsOf.get {S : Nat → Bool} {n : Nat} {ws : List Nat} (h : BitsOf S n ws) {i : Nat} (hi : i < n) : ws[i / 64]? = some (ws.getD (i / 64) 0) ∧ i / 64 < ws.length := by
  have hl := h.len
  have hk : i / 64 < ws.length := by omega
  exact ⟨by rw [List.getD_eq_getElem?_getD, List.getElem?_eq_getElem hk]; rfl, hk⟩
theorem find_some' {l : List Ob} {w : Nat} {o : Ob} (h : findO l w = some o) : o ∈ l ∧ w = 2 * o.at_ := by
  unfold findO at h
  have h1 := List.mem_of_find?_eq_some h
  have h2 := List.find?_some h
  exact ⟨h1, by have : o.at_ * 2 = w := by simpa using h2
                omega⟩
/-- An object's cells lie within memory. -/
theorem place_lt {N : Nat} {l : List Ob} {last k : Nat} {o : Ob} (hf : Fine N l last) (h : l[k]? = some o) : o.at_ + 2 + cellsL o.hd ≤ N := by
  have h1 := heapW_len l 2 hf.ok
  have hok := hf.ok o (List.mem_of_getElem? h)
  obtain ⟨h2, h3⟩ := chain_at l 2 k o hf.ch hf.ok h
  have h4 := obW_len hok
  have h5 := h3 (1 + cellsL o.hd) _ (List.getElem?_eq_getElem (by omega))
  have h6 := (List.getElem?_eq_some_iff.1 h5).1
  have := hf.fit
  omega
theorem and_bit (x k : Nat) (hx : x < 2 ^ 64) (hk : k < 64) : (bits .and .u64 (x : Int) ((2 ^ k : Nat) : Int) != 0) = x.testBit k := by
  rw [u64and x (2 ^ k) hx (Nat.pow_lt_pow_right (by omega) hk)]
  have h := and_pow_zero x k
  cases hb : x.testBit k with
  | false => rw [h.2 hb]; rfl
  | true =>
    have : x &&& 2 ^ k ≠ 0 := fun e => by rw [h.1 e] at hb; cases hb
    rw [bne_iff_ne]
    exact_mod_cast this
set_option maxHeartbeats 800000 in
theorem bhas_any (sb wb n i : Nat) (ws : List Nat) (S : Nat → Bool) (w : World) (hm : BitsM sb wb n ws w) (hS : BitsOf S n ws) (hn : n ≤ 16777216) :
    Calls Try.prog 68 #[.pointer (some ⟨sb, 0, none⟩), .int .i64 (i : Int)] w (Back (.bool (S i)) w) := by
  by_cases hi : i < n
  · have HP := Lib.hid (place_in sb wb n i ws w hm hi hn)
    obtain ⟨hx, hk⟩ := hS.get hi
    have hbit := and_bit (ws.getD (i / 64) 0) (i % 64) (hS.word_lt _) (Nat.mod_lt _ (by omega))
    rw [hS.bit i hi] at hbit
    obtain ⟨x, hxx⟩ : ∃ x, ws.getD (i / 64) 0 = x := ⟨_, rfl⟩
    obtain ⟨p, hp⟩ : ∃ p, 2 ^ (i % 64) = p := ⟨_, rfl⟩
    obtain ⟨k, hkk⟩ : ∃ k, i / 64 = k := ⟨_, rfl⟩
    obtain ⟨r, hr⟩ : ∃ r, S i = r := ⟨_, rfl⟩
    rw [hxx] at hx hbit
    rw [hp] at hbit HP
    rw [hkk] at hx hk HP
    rw [hr] at hbit ⊢
    have HM := Lib.hid hm
    have hK : (k : Int) < (ws.length : Int) := by omega
    have HX := Lib.hid hx
    clear hm hS hn hi hx hxx hp hkk hr
    unfold uV at HP
    go_enter Try.func68, Try.ntmps68
    go_wp2_with fail
    refine HP.out.mono ?_; rintro e w1 ⟨rfl, hb1⟩
    have hm1 := HM.out.bel hb1
    have c1 := hm1.st.c 1 _ rfl
    have cr := hm1.rs.c k _ (row_get HX.out)
    unfold uV at cr
    have HB := Lib.hid hb1
    clear hm1 hb1
    go_wp2_with fail
    go_ret
    exact ⟨rfl, HB.out⟩
  · have HP := Lib.hid (place_out sb wb n (i : Int) ws w hm (.inr (by omega)))
    rw [hS.out i (by omega)]
    clear hm hS hn hi
    unfold uV at HP
    go_enter Try.func68, Try.ntmps68
    go_wp2_with fail
    refine HP.out.mono ?_; rintro e w1 ⟨rfl, hb1⟩
    have HB := Lib.hid hb1
    clear hb1
    go_wp2_with fail
    go_ret
    exact ⟨rfl, HB.out⟩
/-- Where it leads to; is an object there? -/
def hatV (l : List Ob) (x : Nat) : Nat := if okP x = true then x / 2 else 0
def hatB (l : List Ob) (x : Nat) : Bool := okP x && startB l (x / 2)
set_option maxHeartbeats 800000 in
theorem hat_any (B : Bks) (N : Nat) (l : List Ob) (last x : Nat) (w : World) (hm : Mem B N l last w) (hx : x < 18446744073709551616) :
    Calls Try.prog 38 #[.pointer (some ⟨B.h, 0, none⟩), .int .u64 (x : Int)] w (Back (.tuple #[.int .i64 (hatV l x : Nat), .bool (hatB l x)]) w) := by
  obtain ⟨hf, ws, hS, hR⟩ := hm
  have HA := Lib.hid (at_any x hx w)
  have c2 := hR.hp.c 2 _ rfl
  have hbs := hR.bs
  rw [hf.len] at hbs
  by_cases ho : okP x = true
  · have HH := Lib.hid (bhas_any B.s B.b N (x / 2) ws (startB l) w hbs hS hf.hi)
    have e1 : hatV l x = x / 2 := by unfold hatV; rw [if_pos ho]
    have e2 : hatB l x = startB l (x / 2) := by unfold hatB; rw [ho]; rfl
    rw [if_pos ho, if_pos ho] at HA
    rw [e1, e2]
    obtain ⟨r, hr⟩ : ∃ r, startB l (x / 2) = r := ⟨_, rfl⟩
    obtain ⟨q, hq⟩ : ∃ q, x / 2 = q := ⟨_, rfl⟩
    rw [hr] at HH ⊢
    rw [hq] at HA HH ⊢
    clear hf hS hR hx hbs ho e1 e2 hr hq
    go_enter Try.func38, Try.ntmps38
    go_wp2_with fail
    refine HA.out.mono ?_; rintro e w1 ⟨rfl, rfl⟩
    go_wp2_with fail
    refine HH.out.mono ?_; rintro e w1 ⟨rfl, hb1⟩
    have HB := Lib.hid hb1
    clear hb1
    go_wp2_with fail
    go_ret2
    exact ⟨rfl, HB.out⟩
  · have ho : okP x = false := by simpa using ho
    have e1 : hatV l x = 0 := by unfold hatV; rw [if_neg (by rw [ho]; decide)]
    have e2 : hatB l x = false := by unfold hatB; rw [ho]; rfl
    rw [if_neg (by rw [ho]; decide), if_neg (by rw [ho]; decide)] at HA
    rw [e1, e2]
    clear hf hS hR hx hbs ho e1 e2
    go_enter Try.func38, Try.ntmps38
    go_wp2_with fail
    refine HA.out.mono ?_; rintro e w1 ⟨rfl, rfl⟩
    go_wp2_with fail
    go_ret2
    exact ⟨rfl, Below.refl _ _⟩
set_option maxHeartbeats 400000 in
theorem has_any (B : Bks) (N : Nat) (l : List Ob) (last x : Nat) (w : World) (hm : Mem B N l last w) (hx : x < 18446744073709551616) :
    Calls Try.prog 18 #[.pointer (some ⟨B.h, 0, none⟩), .int .u64 (x : Int)] w (Back (.bool (hatB l x)) w) := by
  have HA := Lib.hid (hat_any B N l last x w hm hx)
  obtain ⟨r, hr⟩ : ∃ r, hatB l x = r := ⟨_, rfl⟩
  obtain ⟨q, hq⟩ : ∃ q, hatV l x = q := ⟨_, rfl⟩
  rw [hr, hq] at HA
  rw [hr]
  clear hm hx hr hq
  go_enter Try.func18, Try.ntmps18
  go_wp2_with fail
  refine HA.out.mono ?_; rintro e w1 ⟨rfl, hb1⟩
  have HB := Lib.hid hb1
  clear hb1
  go_wp2_with fail
  go_ret
  exact ⟨rfl, HB.out⟩
/-- Is it an object's pointer, as a list tells it? -/
theorem hatB_find {l : List Ob} {N last : Nat} (hf : Fine N l last) (x : Nat) : hatB l x = (findO l x).isSome := by
  rw [Bool.eq_iff_iff, find_start]
  unfold hatB okP
  simp only [Bool.and_eq_true, Bool.not_eq_true', beq_eq_false_iff_ne, decide_eq_true_eq, ne_eq]
  constructor
  · rintro ⟨⟨⟨h1, h2⟩, h3⟩, h4⟩
    exact ⟨x / 2, by omega, h4⟩
  · rintro ⟨p, rfl, h⟩
    obtain ⟨k, o, h1, h2⟩ := (start_iff l p).1 h
    obtain ⟨h3, -⟩ := chain_at l 2 k o hf.ch hf.ok h1
    have h4 := place_lt hf h1
    refine ⟨⟨⟨by omega, by omega⟩, ?_⟩, ?_⟩
    · have := hf.hi; omega
    · rw [Nat.mul_div_cancel_left _ (by omega)]; exact h
theorem hat_some {l : List Ob} {N last x : Nat} {o : Ob} (hf : Fine N l last) (h : findO l x = some o) : hatB l x = true ∧ hatV l x = o.at_ := by
  have h1 : hatB l x = true := by rw [hatB_find hf, h]; rfl
  refine ⟨h1, ?_⟩
  have h2 := find_some' h
  unfold hatB at h1
  rw [Bool.and_eq_true] at h1
  unfold hatV
  rw [if_pos h1.1, h2.2]
  omega
theorem hat_none {l : List Ob} {N last x : Nat} (hf : Fine N l last) (h : findO l x = none) : hatB l x = false := by rw [hatB_find hf, h]; rfl
set_option maxRecDepth 100000 in
set_option maxHeartbeats 800000 in
theorem head_at (B : Bks) (N : Nat) (l : List Ob) (last k : Nat) (o : Ob) (w : World) (hm : Mem B N l last w) (ho : l[k]? = some o) :
    Calls Try.prog 60 #[.pointer (some ⟨B.h, 0, none⟩), .int .i64 (o.at_ : Int)] w (Back (hdV o.hd) w) := by
  obtain ⟨hf, ws, hS, hR⟩ := hm
  have hlt := place_lt hf ho
  have hok := hf.ok o (List.mem_of_getElem? ho)
  have HU := Lib.hid (fun w => unpack_ok o.hd hok.hd hok.cls w)
  obtain ⟨x0, x1, -⟩ := cells_at hf.ch hf.ok ho (List.replicate (N - endL 2 l) 0)
  obtain ⟨W1, hal1⟩ : ∃ W1, w.alloc (.cells #[.int .u64 0, .int .i64 0, .int .i64 0, .int .u32 0, .bool false] HDT) = W1 := ⟨_, rfl⟩
  have b1 : Below w.heap.size w W1 := by rw [← hal1]; exact alloc_bel _ _
  have qA : Blk HDT w.heap.size #[.int .u64 0, .int .i64 0, .int .i64 0, .int .u32 0, .bool false] W1 := by rw [← hal1]; exact Blk.made _
  have hR1 := hR.bel b1
  have c0 := hR1.hp.c 0 _ rfl
  have hlen := hf.len
  have r0 := hR1.rc.c o.at_ _ (row_get (show (cellsN N l)[o.at_]? = some o.hd.cls from x0))
  have r1 := hR1.rc.c (o.at_ + 1) _ (row_get (show (cellsN N l)[o.at_ + 1]? = some (infoL o.hd) from x1))
  rw [hlen] at c0
  have hhi := hf.hi
  unfold uV at r0 r1 HU
  obtain ⟨a, ha⟩ : ∃ a, o.at_ = a := ⟨_, rfl⟩
  obtain ⟨i0, hi0⟩ : ∃ i, infoL o.hd = i := ⟨_, rfl⟩
  rw [ha] at r0 r1 hlt ⊢
  rw [hi0] at r1 HU
  obtain ⟨c, hc⟩ : ∃ c, o.hd.cls = c := ⟨_, rfl⟩
  rw [hc] at r0 HU
  have n1 : (a : Int) + 2 ≤ (N : Int) := by omega
  have n2 : (N : Int) ≤ 16777216 := by omega
  have QA := Lib.hid qA; have BB := Lib.hid b1
  obtain ⟨⟨hk, ks, kz, kx, km⟩, hH⟩ : ∃ h, o.hd = h := ⟨_, rfl⟩
  rw [hH] at HU ⊢
  unfold hdV uV at HU ⊢
  dsimp only at HU ⊢
  clear hf hS hR ho hok x0 x1 hlen hi0 ha hc hhi hH qA b1 hR1 hlt
  have hart : ∀ w, Sem.run Try.prog (Instr.arrayAt ART (.slice (some ⟨B.c, a, none⟩) 2 (N - a))) w = .ok (.pointer (some ⟨B.c, a, none⟩)) w := fun w => run_arrayAt w ART _ 2 _ 2 (N - a) (show Try.prog.underlying ART = some (.array 2 WT) by kernel_rfl) (Nat.le_refl _)
  go_enter Try.func60, Try.ntmps60
  go_wp2_with fail
  refine (HU.out _).mono ?_; rintro e w1 ⟨rfl, hb1⟩
  obtain ⟨W2, hal2⟩ : ∃ W2, w1.alloc (.cells #[.int .u64 (hk : Int), .int .i64 (ks : Int), .int .i64 (kz : Int), .int .u32 (kx : Int), .bool km] HDT) = W2 := ⟨_, rfl⟩
  have b2 : Below w1.heap.size w1 W2 := by rw [← hal2]; exact alloc_bel _ _
  have qC : Blk HDT w1.heap.size #[.int .u64 (hk : Int), .int .i64 (ks : Int), .int .i64 (kz : Int), .int .u32 (kx : Int), .bool km] W2 := by rw [← hal2]; exact Blk.made _
  have qA1 := (QA.out.below hb1 QA.out.lt).below b2 (Nat.lt_of_lt_of_le QA.out.lt hb1.size)
  have d0 := qC.c 0 _ rfl
  have d1 := qC.c 1 _ rfl
  have d2 := qC.c 2 _ rfl
  have d3 := qC.c 3 _ rfl
  have d4 := qC.c 4 _ rfl
  have g0 := qA1.c 0 _ rfl
  have g1 := qA1.c 1 _ rfl
  have g2 := qA1.c 2 _ rfl
  have g3 := qA1.c 3 _ rfl
  have g4 := qA1.c 4 _ rfl
  have fz := qA1.fz
  have BB2 := Lib.hid (BB.out.trans ((hb1.trans (b2.mono hb1.size)).mono BB.out.size))
  have QA1 := Lib.hid qA1
  clear hb1 b2 qC qA1
  go_wp2_with fail
  obtain ⟨q1, bel1⟩ := blk_set5 QA1.out (.int .u64 (hk : Int)) (.int .i64 (ks : Int)) (.int .i64 (kz : Int)) (.int .u32 (kx : Int)) (.bool km)
  have hbf := BB2.out.trans (bel1 _ (Nat.le_refl _) BB2.out.size)
  generalize ((((W2.setCell ⟨w.heap.size, 0, none⟩ (.int .u64 (hk : Int))).setCell ⟨w.heap.size, 1, none⟩ (.int .i64 (ks : Int))).setCell ⟨w.heap.size, 2, none⟩ (.int .i64 (kz : Int))).setCell ⟨w.heap.size, 3, none⟩ (.int .u32 (kx : Int))).setCell ⟨w.heap.size, 4, none⟩ (.bool km) = Wf at q1 hbf
  have r0 := q1.c 0 _ rfl
  have r1 := q1.c 1 _ rfl
  have r2 := q1.c 2 _ rfl
  have r3 := q1.c 3 _ rfl
  have r4 := q1.c 4 _ rfl
  refine bodyPost_ret (v := .agg #[.int .u64 (hk : Int), .int .i64 (ks : Int), .int .i64 (kz : Int), .int .u32 (kx : Int), .bool km]) (by simp [results, Try.results60, go_sem, r0, r1, r2, r3, r4]) rfl ?_
  exact ⟨rfl, hbf⟩
set_option maxRecDepth 100000 in
set_option maxHeartbeats 800000 in
theorem Head_some (B : Bks) (N : Nat) (l : List Ob) (last x : Nat) (o : Ob) (w : World) (hm : Mem B N l last w) (hx : x < 18446744073709551616) (ho : findO l x = some o) :
    Calls Try.prog 34 #[.pointer (some ⟨B.h, 0, none⟩), .int .u64 (x : Int)] w (Back (.tuple #[hdV o.hd, .int .i64 0]) w) := by
  obtain ⟨W1, hal1⟩ : ∃ W1, w.alloc (.cells #[.int .u64 0, .int .i64 0, .int .i64 0, .int .u32 0, .bool false] HDT) = W1 := ⟨_, rfl⟩
  have b1 : Below w.heap.size w W1 := by rw [← hal1]; exact alloc_bel _ _
  have qA : Blk HDT w.heap.size #[.int .u64 0, .int .i64 0, .int .i64 0, .int .u32 0, .bool false] W1 := by rw [← hal1]; exact Blk.made _
  have hm1 := hm.bel b1
  have HA := Lib.hid (hat_any B N l last x W1 hm1 hx)
  obtain ⟨e1, e2⟩ := hat_some hm.1 ho
  rw [e1, e2] at HA
  obtain ⟨k, hk⟩ := List.getElem?_of_mem (find_some' ho).1
  have HH := Lib.hid (fun w (hm : Mem B N l last w) => head_at B N l last k o w hm hk)
  have QA := Lib.hid qA; have BB := Lib.hid b1; have HM := Lib.hid hm1
  obtain ⟨a, ha⟩ : ∃ a, o.at_ = a := ⟨_, rfl⟩
  rw [ha] at HA HH
  obtain ⟨⟨hk, ks, kz, kx, km⟩, hH⟩ : ∃ h, o.hd = h := ⟨_, rfl⟩
  rw [hH] at HH ⊢
  unfold hdV uV at HH ⊢
  dsimp only at HH ⊢
  clear hm ho hx b1 qA hm1 e1 e2 ha hH
  go_enter Try.func34, Try.ntmps34
  go_wp2_with fail
  refine HA.out.mono ?_; rintro e w1 ⟨rfl, hb1⟩
  have HM1 := Lib.hid (HM.out.bel hb1)
  have HB1 := Lib.hid hb1
  clear hb1
  go_wp2_with fail
  refine (HH.out _ HM1.out).mono ?_; rintro e w2 ⟨rfl, hb2⟩
  have hb12 := HB1.out.trans (hb2.mono HB1.out.size)
  have qA1 := QA.out.below hb12 QA.out.lt
  have g0 := qA1.c 0 _ rfl
  have g1 := qA1.c 1 _ rfl
  have g2 := qA1.c 2 _ rfl
  have g3 := qA1.c 3 _ rfl
  have g4 := qA1.c 4 _ rfl
  have fz := qA1.fz
  have BB2 := Lib.hid (BB.out.trans (hb12.mono BB.out.size))
  have QA1 := Lib.hid qA1
  clear hb2 hb12 qA1
  go_wp2_with fail
  obtain ⟨q1, bel1⟩ := blk_set5 QA1.out (.int .u64 (hk : Int)) (.int .i64 (ks : Int)) (.int .i64 (kz : Int)) (.int .u32 (kx : Int)) (.bool km)
  have hbf := BB2.out.trans (bel1 _ (Nat.le_refl _) BB2.out.size)
  generalize ((((w2.setCell ⟨w.heap.size, 0, none⟩ (.int .u64 (hk : Int))).setCell ⟨w.heap.size, 1, none⟩ (.int .i64 (ks : Int))).setCell ⟨w.heap.size, 2, none⟩ (.int .i64 (kz : Int))).setCell ⟨w.heap.size, 3, none⟩ (.int .u32 (kx : Int))).setCell ⟨w.heap.size, 4, none⟩ (.bool km) = Wf at q1 hbf
  have r0 := q1.c 0 _ rfl
  have r1 := q1.c 1 _ rfl
  have r2 := q1.c 2 _ rfl
  have r3 := q1.c 3 _ rfl
  have r4 := q1.c 4 _ rfl
  refine bodyPost_ret (v := .tuple #[.agg #[.int .u64 (hk : Int), .int .i64 (ks : Int), .int .i64 (kz : Int), .int .u32 (kx : Int), .bool km], .int .i64 0]) (by simp [results, Try.results34, go_sem, r0, r1, r2, r3, r4]) rfl ?_
  exact ⟨rfl, hbf⟩
def hdZ : Value := .agg #[.int .u64 0, .int .i64 0, .int .i64 0, .int .u32 0, .bool false]
set_option maxRecDepth 100000 in
set_option maxHeartbeats 800000 in
theorem Head_none (B : Bks) (N : Nat) (l : List Ob) (last x : Nat) (w : World) (hm : Mem B N l last w) (hx : x < 18446744073709551616) (ho : findO l x = none) :
    Calls Try.prog 34 #[.pointer (some ⟨B.h, 0, none⟩), .int .u64 (x : Int)] w (Back (.tuple #[hdZ, .int .i64 13]) w) := by
  obtain ⟨W1, hal1⟩ : ∃ W1, w.alloc (.cells #[.int .u64 0, .int .i64 0, .int .i64 0, .int .u32 0, .bool false] HDT) = W1 := ⟨_, rfl⟩
  have b1 : Below w.heap.size w W1 := by rw [← hal1]; exact alloc_bel _ _
  have qA : Blk HDT w.heap.size #[.int .u64 0, .int .i64 0, .int .i64 0, .int .u32 0, .bool false] W1 := by rw [← hal1]; exact Blk.made _
  have hm1 := hm.bel b1
  have HA := Lib.hid (hat_any B N l last x W1 hm1 hx)
  rw [hat_none hm.1 ho] at HA
  have QA := Lib.hid qA; have BB := Lib.hid b1
  obtain ⟨a, ha⟩ : ∃ a, hatV l x = a := ⟨_, rfl⟩
  rw [ha] at HA
  unfold hdZ
  clear hm ho hx b1 qA hm1 ha
  go_enter Try.func34, Try.ntmps34
  go_wp2_with fail
  refine HA.out.mono ?_; rintro e w1 ⟨rfl, hb1⟩
  have qA1 := QA.out.below hb1 QA.out.lt
  have g0 := qA1.c 0 _ rfl
  have g1 := qA1.c 1 _ rfl
  have g2 := qA1.c 2 _ rfl
  have g3 := qA1.c 3 _ rfl
  have g4 := qA1.c 4 _ rfl
  have fz := qA1.fz
  have BB2 := Lib.hid (BB.out.trans (hb1.mono BB.out.size))
  have QA1 := Lib.hid qA1
  clear hb1 qA1
  go_wp2_with fail
  obtain ⟨q1, bel1⟩ := blk_set5 QA1.out (.int .u64 0) (.int .i64 0) (.int .i64 0) (.int .u32 0) (.bool false)
  have hbf := BB2.out.trans (bel1 _ (Nat.le_refl _) BB2.out.size)
  generalize ((((w1.setCell ⟨w.heap.size, 0, none⟩ (.int .u64 0)).setCell ⟨w.heap.size, 1, none⟩ (.int .i64 0)).setCell ⟨w.heap.size, 2, none⟩ (.int .i64 0)).setCell ⟨w.heap.size, 3, none⟩ (.int .u32 0)).setCell ⟨w.heap.size, 4, none⟩ (.bool false) = Wf at q1 hbf
  have r0 := q1.c 0 _ rfl
  have r1 := q1.c 1 _ rfl
  have r2 := q1.c 2 _ rfl
  have r3 := q1.c 3 _ rfl
  have r4 := q1.c 4 _ rfl
  refine bodyPost_ret (v := .tuple #[.agg #[.int .u64 0, .int .i64 0, .int .i64 0, .int .u32 0, .bool false], .int .i64 13]) (by simp [results, Try.results34, go_sem, r0, r1, r2, r3, r4]) rfl ?_
  exact ⟨rfl, hbf⟩
end Hp
end Go.Proofs.Ytojblndlchcjeaa
