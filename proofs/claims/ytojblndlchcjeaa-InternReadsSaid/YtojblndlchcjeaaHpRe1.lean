/- Chapters 08 and 17: the reference's heap in memory; head's Pack and Cells by the reference. -/
import Derived.Test.YtojblndlchcjeaaHpRd
import Derived.Test.YtojblndlchcjeaaHpAh
import Derived.Test.YtojblndlchcjeaaHpAa
set_option linter.unusedVariables false
namespace Go.Proofs.Ytojblndlchcjeaa
open Go.RowKit
namespace Hp
open Bs Sm
abbrev OT : Nat := 50
abbrev RHT : Nat := 31
abbrev RHD : Nat := 47
abbrev OV : Type := Ob × Value × Value
def obC (x : OV) : List Value := [.int .i64 (x.1.at_ : Int), uV x.1.hd.cls, .int .i64 (x.1.hd.kind : Int), .int .i64 (x.1.hd.size : Int), .int .u32 (x.1.hd.hash : Int), .bool x.1.hd.mark, x.2.1, x.2.2]
def obV (x : OV) : Value := .agg #[.int .i64 (x.1.at_ : Int), uV x.1.hd.cls, .int .i64 (x.1.hd.kind : Int), .int .i64 (x.1.hd.size : Int), .int .u32 (x.1.hd.hash : Int), .bool x.1.hd.mark, x.2.1, x.2.2]
/-- Eight cells of an object. -/
def ORow (w : World) (b o : Nat) (x : OV) : Prop :=
  w.cell? ⟨b, o, none⟩ = some (.int .i64 (x.1.at_ : Int)) ∧ w.cell? ⟨b, o + 1, none⟩ = some (.int .u64 (x.1.hd.cls : Int)) ∧ w.cell? ⟨b, o + 2, none⟩ = some (.int .i64 (x.1.hd.kind : Int)) ∧ w.cell? ⟨b, o + 3, none⟩ = some (.int .i64 (x.1.hd.size : Int)) ∧
  w.cell? ⟨b, o + 4, none⟩ = some (.int .u32 (x.1.hd.hash : Int)) ∧ w.cell? ⟨b, o + 5, none⟩ = some (.bool x.1.hd.mark) ∧ w.cell? ⟨b, o + 6, none⟩ = some x.2.1 ∧ w.cell? ⟨b, o + 7, none⟩ = some x.2.2
theorem ORow.kp {w w' : World} {b o : Nat} {x : OV} (h : ORow w b o x) (hk : ∀ i, w'.cell? ⟨b, i, none⟩ = w.cell? ⟨b, i, none⟩) : ORow w' b o x := by
  obtain ⟨h0, h1, h2, h3, h4, h5, h6, h7⟩ := h
  exact ⟨(hk _).trans h0, (hk _).trans h1, (hk _).trans h2, (hk _).trans h3, (hk _).trans h4, (hk _).trans h5, (hk _).trans h6, (hk _).trans h7⟩
/-- Objects that can be read. -/
def ObsV (S : Nat → Prop) (w : World) (v : Value) (vl : List OV) : Prop :=
  ∃ a cap, v = .slice a vl.length cap ∧ vl.length ≤ cap ∧ cap ≤ maxLen ∧ (0 < vl.length → ∃ b off, a = some ⟨b, off, none⟩ ∧ S b ∧ b < w.heap.size ∧ ∀ i x, vl[i]? = some x → ORow w b (off + i * 8) x) ∧
    ∀ x ∈ vl, Rd S uV w x.2.1 x.1.words ∧ Rd S byV w x.2.2 x.1.bytes
def Obs (S : Nat → Prop) (w : World) (v : Value) (l : List Ob) : Prop := ∃ vl : List OV, vl.map (·.1) = l ∧ ObsV S w v vl
section
variable {S S' : Nat → Prop} {w w' : World} {v : Value} {l : List Ob} {vl : List OV}
theorem ObsV.kp (h : ObsV S w v vl) (hk : Kp S w w') : ObsV S w' v vl := by
  obtain ⟨a, cap, h1, h2, h3, h4, h5⟩ := h
  refine ⟨a, cap, h1, h2, h3, fun hl => ?_, fun x hx => ⟨(h5 x hx).1.kp hk, (h5 x hx).2.kp hk⟩⟩
  obtain ⟨b, off, k1, k0, k2, k3⟩ := h4 hl
  exact ⟨b, off, k1, k0, Nat.lt_of_lt_of_le k2 hk.1, fun i x hx => (k3 i x hx).kp (fun j => hk.cell k0 k2 j)⟩
theorem Obs.kp (h : Obs S w v l) (hk : Kp S w w') : Obs S w' v l := by
  obtain ⟨vl, h1, h2⟩ := h
  exact ⟨vl, h1, h2.kp hk⟩
theorem Obs.bel (h : Obs S w v l) (hb : Below w.heap.size w w') : Obs S w' v l := h.kp (Kp.of hb)
theorem Obs.form (h : Obs S w v l) : ∃ a cap, v = .slice a l.length cap ∧ l.length ≤ cap ∧ cap ≤ maxLen := by
  obtain ⟨vl, rfl, a, cap, h1, h2, h3, _⟩ := h
  exact ⟨a, cap, by rw [List.length_map]; exact h1, by rw [List.length_map]; exact h2, h3⟩
/-- The i-th. -/
theorem Obs.nth {a : Option Addr} {n cap : Nat} (h : Obs S w (.slice a n cap) l) (i : Nat) (hi : i < n) :
    ∃ b off o wv bv, a = some ⟨b, off, none⟩ ∧ l[i]? = some o ∧ S b ∧ b < w.heap.size ∧ ORow w b (off + i * 8) (o, wv, bv) ∧ Rd S uV w wv o.words ∧ Rd S byV w bv o.bytes := by
  obtain ⟨vl, rfl, a', cap', h1, h2, h3, h4, h5⟩ := h
  cases h1
  obtain ⟨b, off, k1, k0, k2, k3⟩ := h4 (by omega)
  have hx := List.getElem?_eq_getElem hi
  obtain ⟨r1, r2⟩ := h5 _ (List.getElem_mem hi)
  exact ⟨b, off, vl[i].1, vl[i].2.1, vl[i].2.2, k1, by rw [List.getElem?_map, hx]; rfl, k0, k2, k3 i _ hx, r1, r2⟩
theorem Obs.len {a : Option Addr} {n cap : Nat} (h : Obs S w (.slice a n cap) l) : n = l.length := by
  obtain ⟨a', cap', e, _⟩ := h.form
  cases e; rfl
end
/-- A heap of the reference, by value. -/
def rhV (N : Nat) (lv : Value) (last : Nat) : Value := .agg #[.int .i64 (N : Int), lv, .int .u32 (last : Int)]
theorem ris_any (n : Nat) (w : World) : Calls Try.prog 29 #[.int .u64 (n : Int)] w (Done (.bool (n % 2 == 1)) w) := by
  have hb : (((n : Int) % 2) == 1) = (n % 2 == 1) := by rw [Bool.eq_iff_iff]; simp; omega
  have HB := Lib.hid hb; clear hb
  go_enter Try.func29, Try.ntmps29
  go_wp2_with fail
  go_ret
  exact ⟨by first | rfl | (rw [HB.out]; rfl), rfl⟩
theorem blk_set2 {T k : Nat} {a b : Value} {w : World} (h : Blk T k #[a, b] w) (a' b' : Value) :
    Blk T k #[a', b'] ((w.setCell ⟨k, 0, none⟩ a').setCell ⟨k, 1, none⟩ b') ∧ ∀ B, B ≤ k → B ≤ w.heap.size → Below B w ((w.setCell ⟨k, 0, none⟩ a').setCell ⟨k, 1, none⟩ b') :=
  ⟨(h.set_ 0 a' _ rfl).set_ 1 b' _ rfl, fun B hB hw => ((Below.refl B w).setCell hB _).setCell hB _⟩
abbrev AU2 : Nat := 147
set_option maxRecDepth 100000 in
set_option maxHeartbeats 1600000 in
theorem rpack_ok (h : Hdr) (ok : okB h = true) (w : World) :
    Calls Try.prog 70 #[hdV h] w (Back (.tuple #[.agg #[uV h.cls, uV (infoL h)], .int .i64 0]) w) := by
  obtain ⟨c, k, s, x, m⟩ := h
  obtain ⟨h1, h2, h3, h4, h5⟩ := (okB_iff _).1 ok
  dsimp only at h1 h2 h3 h4 h5
  have HI := Lib.hid (fun w => ris_any c w)
  rw [show (c % 2 == 1) = false by simpa using h2] at HI
  have t1 : ((c : Int) == 0) = false := by simpa using h1
  have t2 : decide ((s : Int) < 0) = false := decide_eq_false (by omega)
  have t3 : decide ((1048576 : Int) < (s : Int)) = false := decide_eq_false (by omega)
  have t3' : decide (1048576 < s) = false := decide_eq_false (by omega)
  have t4 : decide ((16777216 : Int) ≤ (x : Int)) = false := decide_eq_false (by omega)
  have t4' : decide (16777216 ≤ x) = false := decide_eq_false (by omega)
  have t5 : decide ((k : Int) < 0) = false := decide_eq_false (by omega)
  have t6 : decide ((2 : Int) < (k : Int)) = false := decide_eq_false (by omega)
  have t6' : decide (2 < k) = false := decide_eq_false (by omega)
  obtain ⟨I, hI⟩ : ∃ I, infoL ⟨c, k, s, x, m⟩ = I := ⟨_, rfl⟩
  rw [hI]
  obtain ⟨F, hF⟩ : ∃ F, IntKind.u64.wrap (IntKind.u64.wrap (IntKind.u64.wrap (s : Int) + IntKind.u64.wrap (IntKind.u64.wrap (k : Int) * 4294967296)) + IntKind.u64.wrap (IntKind.u64.wrap (x : Int) * 1099511627776)) = F := ⟨_, rfl⟩
  have hF2 : F = ((s + k * 4294967296 + x * 1099511627776 : Nat) : Int) := by rw [← hF]; simp only [wrap_u64_eq]; omega
  unfold hdV uV
  dsimp only
  obtain ⟨W1, hal1⟩ : ∃ W1, w.alloc (.cells #[.int .u64 (c : Int), .int .i64 (k : Int), .int .i64 (s : Int), .int .u32 (x : Int), .bool m] RHD) = W1 := ⟨_, rfl⟩
  obtain ⟨W2, hal2⟩ : ∃ W2, W1.alloc (.cells #[.int .u64 0, .int .u64 0] AU2) = W2 := ⟨_, rfl⟩
  have b1 : Below w.heap.size w W1 := by rw [← hal1]; exact alloc_bel _ _
  have b2 : Below W1.heap.size W1 W2 := by rw [← hal2]; exact alloc_bel _ _
  have qA0 : Blk RHD w.heap.size #[.int .u64 (c : Int), .int .i64 (k : Int), .int .i64 (s : Int), .int .u32 (x : Int), .bool m] W1 := by rw [← hal1]; exact Blk.made _
  have qB : Blk AU2 W1.heap.size #[.int .u64 0, .int .u64 0] W2 := by rw [← hal2]; exact Blk.made _
  have qA := qA0.below b2 qA0.lt
  have c0 := qA.c 0 _ rfl
  have c1 := qA.c 1 _ rfl
  have c2 := qA.c 2 _ rfl
  have c3 := qA.c 3 _ rfl
  have c4 := qA.c 4 _ rfl
  have g0 := qB.c 0 _ rfl
  have g1 := qB.c 1 _ rfl
  have fz := qB.fz
  have QB := Lib.hid qB
  have HB := Lib.hid (b1.trans (b2.mono b1.size))
  have HS := Lib.hid b1.size
  have HI2 : Hid ((if m then IntKind.u64.wrap (F + 68719476736) else F) = (I : Int)) := Lib.hid (by
    cases m
    · rw [if_neg (by decide), hF2, ← hI]; unfold infoL; dsimp only; rw [if_neg (by decide), Nat.add_zero]
    · rw [if_pos rfl, hF2, ← hI, wrap_u64_eq]; unfold infoL; dsimp only; rw [if_pos rfl]; omega)
  clear ok h1 h2 h3 h4 h5 qA0 qA qB b1 b2 hI hF2
  cases m
  all_goals
    go_enter Try.func70, Try.ntmps70
    go_wp2_with fail
    refine (HI.out _).mono ?_; rintro e w' ⟨rfl, rfl⟩
    go_wp2_with fail
  · obtain ⟨q1, bel1⟩ := blk_set2 QB.out (.int .u64 (c : Int)) (.int .u64 (F))
    have hbf := HB.out.trans (bel1 _ HS.out HB.out.size)
    generalize (W2.setCell ⟨W1.heap.size, 0, none⟩ (.int .u64 (c : Int))).setCell ⟨W1.heap.size, 1, none⟩ (.int .u64 (F)) = Wf at q1 hbf
    have r0 := q1.c 0 _ rfl
    have r1 := q1.c 1 _ rfl
    refine bodyPost_ret (v := .tuple #[.agg #[.int .u64 (c : Int), .int .u64 (F)], .int .i64 0]) (by simp [results, Try.results70, go_sem, r0, r1]) rfl ?_
    refine ⟨?_, hbf⟩
    have := HI2.out
    rw [if_neg (by decide)] at this
    rw [this]
  · obtain ⟨q1, bel1⟩ := blk_set2 QB.out (.int .u64 (c : Int)) (.int .u64 (IntKind.u64.wrap (F + 68719476736)))
    have hbf := HB.out.trans (bel1 _ HS.out HB.out.size)
    generalize (W2.setCell ⟨W1.heap.size, 0, none⟩ (.int .u64 (c : Int))).setCell ⟨W1.heap.size, 1, none⟩ (.int .u64 (IntKind.u64.wrap (F + 68719476736))) = Wf at q1 hbf
    have r0 := q1.c 0 _ rfl
    have r1 := q1.c 1 _ rfl
    refine bodyPost_ret (v := .tuple #[.agg #[.int .u64 (c : Int), .int .u64 (IntKind.u64.wrap (F + 68719476736))], .int .i64 0]) (by simp [results, Try.results70, go_sem, r0, r1]) rfl ?_
    refine ⟨?_, hbf⟩
    have := HI2.out
    rw [if_pos (by trivial)] at this
    rw [this]
set_option maxRecDepth 100000 in
set_option maxHeartbeats 1600000 in
theorem rcells_ok (h : Hdr) (ok : okB h = true) (w : World) :
    Calls Try.prog 46 #[hdV h] w (Back (.int .i64 (cellsL h : Nat)) w) := by
  have HP := Lib.hid (fun w => rpack_ok h ok w)
  obtain ⟨h1, h2, h3, h4, h5⟩ := (okB_iff _).1 ok
  obtain ⟨I, hI⟩ : ∃ I, infoL h = I := ⟨_, rfl⟩
  rw [hI] at HP
  obtain ⟨c, k, s, x, m⟩ := h
  dsimp only at h1 h2 h3 h4 h5
  unfold cellsL
  unfold hdV uV at HP ⊢
  dsimp only at HP ⊢
  clear ok h1 h2 h4 hI
  by_cases h2 : k = 2
  · subst h2
    rw [if_pos rfl]
    have HP2 : Hid (∀ w, Calls Try.prog 70 #[.agg #[.int .u64 (c : Int), .int .i64 2, .int .i64 (s : Int), .int .u32 (x : Int), .bool m]] w (Back (.tuple #[.agg #[.int .u64 (c : Int), .int .u64 (I : Int)], .int .i64 0]) w)) := Lib.hid HP.out
    have s1 : (s : Int) ≤ 1048576 := by omega
    obtain ⟨W1, hal1⟩ : ∃ W1, w.alloc (.cells #[.int .u64 (c : Int), .int .i64 2, .int .i64 (s : Int), .int .u32 (x : Int), .bool m] RHD) = W1 := ⟨_, rfl⟩
    have b1 : Below w.heap.size w W1 := by rw [← hal1]; exact alloc_bel _ _
    have qA : Blk RHD w.heap.size #[.int .u64 (c : Int), .int .i64 2, .int .i64 (s : Int), .int .u32 (x : Int), .bool m] W1 := by rw [← hal1]; exact Blk.made _
    have c0 := qA.c 0 _ rfl
    have c1 := qA.c 1 _ rfl
    have c2 := qA.c 2 _ rfl
    have c3 := qA.c 3 _ rfl
    have c4 := qA.c 4 _ rfl
    have QA := Lib.hid qA; have HB := Lib.hid b1
    clear qA b1 h5 HP
    go_enter Try.func46, Try.ntmps46
    go_wp2_with fail
    refine (HP2.out _).mono ?_; rintro e w1 ⟨rfl, hb1⟩
    have qB := QA.out.below hb1 QA.out.lt
    have b2 := alloc_bel w1 (.cells #[.int .u64 (c : Int), .int .u64 (I : Int)] AU2)
    obtain ⟨W2, hal2⟩ : ∃ W2, w1.alloc (.cells #[.int .u64 (c : Int), .int .u64 (I : Int)] AU2) = W2 := ⟨_, rfl⟩
    rw [hal2] at b2
    have qC := qB.below b2 qB.lt
    have d1 := qC.c 1 _ rfl
    have d2 := qC.c 2 _ rfl
    have HB1 := Lib.hid (HB.out.trans ((hb1.trans (b2.mono hb1.size)).mono HB.out.size))
    clear hb1 qB b2 qC
    go_wp2_with fail
    go_loop [5] (fun y => ∃ n : Nat, y = .int .i64 (n : Int) ∧ n ≤ (s + 7) / 8) (fun y => s + 8 - (intOf y).toNat)
    case atStart => exact ⟨0, rfl, Nat.zero_le _⟩
    case round =>
      obtain ⟨n, rfl, hn⟩ := hrel
      by_cases hlt : 8 * n < s
      · have g1 : decide (8 * (n : Int) < (s : Int)) = true := decide_eq_true (by omega)
        have n1 : (n : Int) ≤ 1048576 := by omega
        go_wp2_with fail
        exact ⟨⟨n + 1, by simp, by omega⟩, by simp only [intOf]; omega⟩
      · have g1 : decide (8 * (n : Int) < (s : Int)) = false := decide_eq_false (by omega)
        have n1 : (n : Int) ≤ 1048576 := by omega
        have n2 : n = (s + 7) / 8 := by omega
        have HN := Lib.hid n2
        clear n2 hn hlt
        go_wp2_with fail
        go_ret
        exact ⟨ret1 (vint (by rw [HN.out]; omega)), HB1.out⟩
  have c5 := h5
  obtain ⟨W1, hal1⟩ : ∃ W1, w.alloc (.cells #[.int .u64 (c : Int), .int .i64 (k : Int), .int .i64 (s : Int), .int .u32 (x : Int), .bool m] RHD) = W1 := ⟨_, rfl⟩
  have b1 : Below w.heap.size w W1 := by rw [← hal1]; exact alloc_bel _ _
  have qA : Blk RHD w.heap.size #[.int .u64 (c : Int), .int .i64 (k : Int), .int .i64 (s : Int), .int .u32 (x : Int), .bool m] W1 := by rw [← hal1]; exact Blk.made _
  have c0 := qA.c 0 _ rfl
  have c1 := qA.c 1 _ rfl
  have c2 := qA.c 2 _ rfl
  have c3 := qA.c 3 _ rfl
  have c4 := qA.c 4 _ rfl
  have QA := Lib.hid qA; have HB := Lib.hid b1
  clear qA b1
  · have k1 : ((k : Int) == 2) = false := by simp; omega
    rw [if_neg h2]
    clear h2 h5 c5
    go_enter Try.func46, Try.ntmps46
    go_wp2_with fail
    refine (HP.out _).mono ?_; rintro e w1 ⟨rfl, hb1⟩
    have qB := QA.out.below hb1 QA.out.lt
    have b2 := alloc_bel w1 (.cells #[.int .u64 (c : Int), .int .u64 (I : Int)] AU2)
    obtain ⟨W2, hal2⟩ : ∃ W2, w1.alloc (.cells #[.int .u64 (c : Int), .int .u64 (I : Int)] AU2) = W2 := ⟨_, rfl⟩
    rw [hal2] at b2
    have qC := qB.below b2 qB.lt
    have d1 := qC.c 1 _ rfl
    have d2 := qC.c 2 _ rfl
    have HB1 := Lib.hid (HB.out.trans ((hb1.trans (b2.mono hb1.size)).mono HB.out.size))
    clear hb1 qB b2 qC
    go_wp2_with fail
    go_ret
    exact ⟨rfl, HB1.out⟩
end Hp
end Go.Proofs.Ytojblndlchcjeaa
