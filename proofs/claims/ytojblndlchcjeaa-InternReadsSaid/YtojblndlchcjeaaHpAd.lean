/- Chapter 17, the walk: the reference's Symbol. · Chapter 17, the walk: the reference's Global. -/
import Derived.Test.YtojblndlchcjeaaHpAc
import Derived.BigQuiet
import Derived.Deep.QuietTactic
set_option linter.unusedVariables false
namespace Go.Proofs.Ytojblndlchcjeaa
open Go.RowKit
namespace Hp
open Bs Sm
theorem rd_text {P : Program} (t dst e : TypeId) (h1 : P.underlying t = some (.slice e)) (h2 : P.underlying e = some (.int .u8)) (h3 : P.underlying dst = some .string) {S : Nat → Prop} {w : World} {v : Value} {l : List UInt8} (h : Rd S byV w v l) :
    (convert t dst v).run P w = .ok (.string ⟨l.toArray⟩) w := by
  obtain ⟨a, cap, rfl, k2, k3, k5, k4⟩ := h
  cases a with
  | none =>
    have hc := k5 rfl
    subst hc
    obtain rfl : l = [] := List.eq_nil_of_length_eq_zero (by omega)
    rw [run_convert_bytes_string w t dst e none [].length 0 h1 h2 h3]
    rfl
  | some a =>
    refine run_convert_bytes_back w t dst e a cap l h1 h2 h3 fun j hj => ?_
    obtain ⟨b, off, e1, -, -, e4⟩ := k4 (by omega)
    cases e1
    have e : (⟨b, off, none⟩ : Addr).add j = ⟨b, off + j, none⟩ := by unfold Addr.add; split <;> simp_all
    rw [e]
    exact e4 j _ (List.getElem?_eq_getElem hj)
def SymR (S : Nat → Prop) (b : Bts) (is : Bool) (w : World) (e : Ending) (w' : World) : Prop := ∃ a c, e = .returned (.tuple #[.slice a b.length c, .bool is]) ∧ Rd S byV w' (.slice a b.length c) b ∧ Below w.heap.size w w'
set_option maxRecDepth 100000 in
set_option maxHeartbeats 3200000 in
theorem rsym_some (S : Nat → Prop) (N last x k rn rc c13 : Nat) (ra : Option Addr) (lv : Value) (RW : List Nat) (l : List Ob) (o : Ob) (w : World) (hl : Obs S w lv l) (hat : ∀ o ∈ l, o.at_ ≤ 16777216) (hx : x < 18446744073709551616) (hk : idxO l x = some k) (ho : l[k]? = some o)
    (hr : Rd S uV w (.slice ra rn rc) RW) (h13 : RW[13]? = some c13) :
    Calls Try.prog 27 #[lkV N lv last (.slice ra rn rc), .int .u64 (x : Int)] w (SymR S o.bytes (decide (o.hd.cls = c13) && decide (o.hd.kind = 2)) w) := by
  have HF := Lib.hid (fun v (h : Obs S v lv l) => rfnd_some S N last x k rn rc ra lv l o v h hat hx hk ho)
  have HL := Lib.hid hl
  obtain ⟨a, cap, rfl, -, -⟩ := hl.form
  obtain ⟨m, hm⟩ : ∃ m, l.length = m := ⟨_, rfl⟩
  rw [hm] at HF HL ⊢
  obtain ⟨a', c', e', hle, hcm, hcn, hcell⟩ := hr
  have hrn : rn = RW.length := by cases e'; rfl
  have h13l := (List.getElem?_eq_some_iff.1 h13).1
  obtain ⟨gb, off, hra, -, hgl, hrd⟩ := hcell (by omega)
  have hra2 : ra = some ⟨gb, off, none⟩ := by cases e'; exact hra
  subst hra2
  have r13 := hrd 13 c13 h13
  unfold uV at r13
  have h13n : 13 < rn := by omega
  have hrni : (13 : Int) < (rn : Int) := by omega
  obtain ⟨p13, hp13⟩ : ∃ p, off + 13 = p := ⟨_, rfl⟩
  rw [hp13] at r13
  obtain ⟨W1, hal1⟩ : ∃ W, w.alloc (.cells #[.int .i64 (N : Int), .slice a m cap, .int .u32 (last : Int), .slice (some ⟨gb, off, none⟩) rn rc] LKT) = W := ⟨_, rfl⟩
  have b1 : Below w.heap.size w W1 := by rw [← hal1]; exact alloc_bel w _
  have q1 : Blk LKT w.heap.size #[.int .i64 (N : Int), .slice a m cap, .int .u32 (last : Int), .slice (some ⟨gb, off, none⟩) rn rc] W1 := by rw [← hal1]; exact Blk.made w
  have c0 : W1.cell? ⟨w.heap.size, 0, none⟩ = some (.int .i64 (N : Int)) := q1.c 0 _ rfl
  have c1 : W1.cell? ⟨w.heap.size, 1, none⟩ = some (.slice a m cap) := q1.c 1 _ rfl
  have c2 : W1.cell? ⟨w.heap.size, 2, none⟩ = some (.int .u32 (last : Int)) := q1.c 2 _ rfl
  have c3 : W1.cell? ⟨w.heap.size, 3, none⟩ = some (.slice (some ⟨gb, off, none⟩) rn rc) := q1.c 3 _ rfl
  have HL1 := Lib.hid (HL.out.bel b1)
  have HB1 := Lib.hid b1
  have HQ1 := Lib.hid q1
  have HR13 := Lib.hid (fun v (h : Below w.heap.size w v) => (World.cell?_of_block (a := ⟨gb, p13, none⟩) (h.block gb hgl)).trans r13)
  obtain ⟨OB, hOB⟩ : ∃ x, o.bytes = x := ⟨_, rfl⟩
  have HOB := Lib.hid hOB
  rw [hOB]
  obtain ⟨IS, hIS⟩ : ∃ x, (decide (o.hd.cls = c13) && decide (o.hd.kind = 2)) = x := ⟨_, rfl⟩
  have HIS := Lib.hid hIS
  rw [hIS]
  unfold lkV at HF ⊢
  clear hl hat hx hk ho hm b1 q1 hOB hIS e' hle hcm hcn hcell h13 h13l hra hrd r13 hgl hrn
  go_enter Try.func27, Try.ntmps27
  go_wp2_with fail
  refine (HF.out W1 HL1.out).mono ?_; rintro e w2 ⟨wv, bv, rfl, hrw, hrb, hb2⟩
  obtain ⟨wa, wc, rfl, -, -⟩ := hrw.form
  obtain ⟨ba, bc, rfl, -, -⟩ := hrb.form
  rw [HOB.out] at hrb ⊢
  obtain ⟨wn, hwn⟩ : ∃ m, o.words.length = m := ⟨_, rfl⟩
  obtain ⟨bn, hbn⟩ : ∃ m, OB.length = m := ⟨_, rfl⟩
  rw [hwn]
  rw [hbn] at hrb ⊢
  obtain ⟨at_, ⟨kc, kk, kz, kh, km⟩, OW', OB'⟩ := o
  unfold obV uV
  dsimp only
  obtain ⟨W3, hal3⟩ : ∃ W, w2.alloc (.cells #[.int .i64 (at_ : Int), .int .u64 (kc : Int), .int .i64 (kk : Int), .int .i64 (kz : Int), .int .u32 (kh : Int), .bool km, .slice wa wn wc, .slice ba bn bc] OT) = W := ⟨_, rfl⟩
  have b3 : Below w2.heap.size w2 W3 := by rw [← hal3]; exact alloc_bel w2 _
  have q3 : Blk OT w2.heap.size #[.int .i64 (at_ : Int), .int .u64 (kc : Int), .int .i64 (kk : Int), .int .i64 (kz : Int), .int .u32 (kh : Int), .bool km, .slice wa wn wc, .slice ba bn bc] W3 := by rw [← hal3]; exact Blk.made w2
  have d1 : W3.cell? ⟨w2.heap.size, 1, none⟩ = some (.int .u64 (kc : Int)) := q3.c 1 _ rfl
  have d2 : W3.cell? ⟨w2.heap.size, 2, none⟩ = some (.int .i64 (kk : Int)) := q3.c 2 _ rfl
  have d7 : W3.cell? ⟨w2.heap.size, 7, none⟩ = some (.slice ba bn bc) := q3.c 7 _ rfl
  have hb03 := (HB1.out.trans (hb2.mono HB1.out.size)).trans (b3.mono (Nat.le_trans HB1.out.size hb2.size))
  have e1 : W3.cell? ⟨w.heap.size, 1, none⟩ = some (.slice a m cap) := ((HQ1.out.below hb2 HQ1.out.lt).below b3 (HQ1.out.below hb2 HQ1.out.lt).lt).c 1 _ rfl
  have e3 : W3.cell? ⟨w.heap.size, 3, none⟩ = some (.slice (some ⟨gb, off, none⟩) rn rc) := ((HQ1.out.below hb2 HQ1.out.lt).below b3 (HQ1.out.below hb2 HQ1.out.lt).lt).c 3 _ rfl
  have e13 := HR13.out W3 hb03
  have HRES : Hid (∀ q, SymR S OB IS w (.returned (.tuple #[.slice ba bn bc, .bool IS])) (W3.drewN q)) := Lib.hid (fun q => ⟨_, _, by rw [hbn], by rw [hbn]; exact (hrb.below b3).below (below_drewN W3 q), hb03.trans ((below_drewN W3 q).mono hb03.size)⟩)
  clear hrw hrb hb2 hwn hbn b3 q3 HOB hb03
  by_cases hc : kc = c13
  · have hcd : ((kc : Int) == (c13 : Int)) = true := by simp [hc]
    by_cases hk2 : kk = 2
    · have hkd : ((kk : Int) == 2) = true := by simp [hk2]
      have hI : IS = true := by rw [← HIS.out]; simp [hc, hk2]
      subst hI
      clear hc hk2
      go_wp2_with fail
      go_quiet (fail)
      go_wp2_with fail
      go_ret2
      exact HRES.out _
    · have hkd : ((kk : Int) == 2) = false := by simp; omega
      have hI : IS = false := by rw [← HIS.out]; simp [hc, hk2]
      subst hI
      clear hc hk2
      go_wp2_with fail
      go_quiet (fail)
      go_wp2_with fail
      go_ret2
      exact HRES.out _
  · have hcd : ((kc : Int) == (c13 : Int)) = false := by simp; omega
    have hI : IS = false := by rw [← HIS.out]; simp [hc]
    subst hI
    clear hc
    go_wp2_with fail
    go_quiet (fail)
    go_wp2_with fail
    go_ret2
    exact HRES.out _
end Hp
end Go.Proofs.Ytojblndlchcjeaa
namespace Go.Proofs.Ytojblndlchcjeaa
open Go.RowKit
namespace Hp
open Bs Sm
end Hp
end Go.Proofs.Ytojblndlchcjeaa
