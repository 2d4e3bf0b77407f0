/- Chapter 17, the walk: heap's Put. -/
import Derived.Test.YtojblndlchcjeaaHpIb
import Derived.Test.YtojblndlchcjeaaHpW5
set_option linter.unusedVariables false
namespace Go.Proofs.Ytojblndlchcjeaa
open Go.RowKit
namespace Hp
open Bs Sm
theorem at_ge {l : List Ob} {k : Nat} {o : Ob} (hc : Chain 2 l) (h : l[k]? = some o) : 2 ≤ o.at_ := by
  rw [(at_take hc h).1]
  exact end_le _ 2
theorem put_end {l : List Ob} {k j y : Nat} {o : Ob} (hc : Chain 2 l) (hok : ∀ o ∈ l, OkO o) (h : l[k]? = some o) (hk : o.hd.kind ≠ 2) (hj : j < o.words.length) (hy : y < 18446744073709551616) : endL 2 (putW l k j y) = endL 2 l := by
  have h1 := heapW_len l 2 hok
  have h2 := heapW_len (putW l k j y) 2 (putW_ok hok hy)
  rw [heapW_put hc hok h hk hj hy, List.length_set] at h2
  omega
theorem put_cells {N : Nat} {l : List Ob} {k j y : Nat} {o : Ob} (hc : Chain 2 l) (hok : ∀ o ∈ l, OkO o) (h : l[k]? = some o) (hk : o.hd.kind ≠ 2) (hj : j < o.words.length) (hy : y < 18446744073709551616) : cellsN N (putW l k j y) = (cellsN N l).set (o.at_ + 2 + j) y := by
  unfold cellsN
  rw [put_end hc hok h hk hj hy, heapW_put hc hok h hk hj hy]
  have hge := at_ge hc h
  rw [show o.at_ + 2 + j = (o.at_ - 2 + (2 + j)) + 2 by omega, List.set_cons_succ, List.set_cons_succ, List.set_append_left]
  have h1 := heapW_len l 2 hok
  have h2 := at_take hc h
  have h3 := (hok o (List.mem_of_getElem? h)).words hk
  have h4 : cellsL o.hd = o.hd.size := by unfold cellsL; rw [if_neg hk]
  omega
theorem put_fine {N last : Nat} {l : List Ob} {k j y : Nat} {o : Ob} (hf : Fine N l last) (h : l[k]? = some o) (hk : o.hd.kind ≠ 2) (hj : j < o.words.length) (hy : y < 18446744073709551616) : Fine N (putW l k j y) last :=
  ⟨putW_chain hf.ch, putW_ok hf.ok hy, by rw [put_end hf.ch hf.ok h hk hj hy]; exact hf.fit, hf.lo, hf.hi, hf.la⟩
def StR (B : Bks) (N : Nat) (l : List Ob) (last : Nat) (w : World) (e : Ending) (w' : World) : Prop := e = .returned (.int .i64 0) ∧ Mem B N l last w' ∧ But (HB B) w w'
set_option maxRecDepth 100000 in
set_option maxHeartbeats 1600000 in
theorem hput_any (B : Bks) (N : Nat) (l : List Ob) (last k j x y : Nat) (o : Ob) (w : World) (hm : Mem B N l last w) (h : l[k]? = some o) (hx : x = 2 * o.at_) (hk : o.hd.kind ≠ 2) (hj : j < o.words.length) (hy : y < 18446744073709551616) :
    Calls Try.prog 37 #[.pointer (some ⟨B.h, 0, none⟩), .int .u64 (x : Int), .int .i64 (j : Int), .int .u64 (y : Int)] w (StR B N (putW l k j y) last w) := by
  have hf := hm.1
  have hfo : findO l x = some o := by rw [hx, Nat.mul_comm]; exact find_at hf.ch h
  have hplt := place_lt hf h
  have hNh := hf.hi
  have hsz := ((hf.ok o (List.mem_of_getElem? h)).words hk).1
  have hcl : cellsL o.hd = o.hd.size := by unfold cellsL; rw [if_neg hk]
  have HF := Lib.hid (find_false B N l last x (j : Int) w hm (by omega))
  have hfl : findL l x (j : Int) false = (((o.at_ + 2 + j : Nat) : Int), 0) := by
    unfold findL
    rw [hfo]
    have e : (o.hd.kind == 2) = false := by simpa using hk
    dsimp only
    rw [e, if_neg (by decide), if_neg (by omega)]
    congr 1
  rw [hfl] at HF
  obtain ⟨p, hp⟩ : ∃ p, o.at_ + 2 + j = p := ⟨_, rfl⟩
  rw [hp] at HF
  have hpN : p < N := by omega
  have hpi : (p : Int) < (N : Int) := by omega
  have hp0 : (0 : Int) ≤ (p : Int) := by omega
  have HFI := Lib.hid (put_fine hf h hk hj hy)
  have hce := put_cells (N := N) hf.ch hf.ok h hk hj hy
  rw [hp] at hce
  have HCE := Lib.hid hce
  have HEE := Lib.hid (put_end hf.ch hf.ok h hk hj hy)
  have HLE := Lib.hid hf.len
  have HLE2 := Lib.hid (put_fine hf h hk hj hy).len
  have HM := Lib.hid hm
  clear hm h hx hk hj hy hf hfo hplt hNh hsz hcl hfl hp hce
  go_enter Try.func37, Try.ntmps37
  go_wp2_with fail
  refine HF.out.mono ?_; rintro e w1 ⟨rfl, hb1⟩
  obtain ⟨hf1, ws, hS, hR⟩ := HM.out.bel hb1
  have c0 : w1.cell? ⟨B.h, 0, none⟩ = some (.slice (some ⟨B.c, 0, none⟩) N N) := by have := hR.hp.c 0 _ rfl; rw [HLE.out] at this; exact this
  obtain ⟨u, hu⟩ : ∃ u, (cellsN N l)[p]? = some u := ⟨_, List.getElem?_eq_getElem (by rw [HLE.out]; exact hpN)⟩
  have cp : w1.cell? ⟨B.c, p, none⟩ = some (.int .u64 (u : Int)) := hR.rc.c p _ (row_get hu)
  have zp : w1.frozen? ⟨B.c, p, none⟩ = false := hR.rc.fz p
  have HRES : Hid (Mem B N (putW l k j y) last (w1.setCell ⟨B.c, p, none⟩ (.int .u64 (y : Int))) ∧ But (HB B) w (w1.setCell ⟨B.c, p, none⟩ (.int .u64 (y : Int)))) := Lib.hid (by
    refine ⟨⟨HFI.out, ws, by rw [putW_start]; exact hS, ?_⟩, (But.of hb1).set_ (X := HB B) (k := B.c) (.inr (.inl rfl)) p _⟩
    have h1 := hR.hp
    have h2 := hR.bs
    rw [HLE.out] at h1 h2
    rw [HEE.out]
    refine ⟨?_, ?_, ?_⟩
    · rw [HLE2.out]; exact blk_set h1 hR.rc ht_wt p _
    · refine hR.rc.set_ p _ _ ?_
      rw [HCE.out, ← row_set]; rfl
    · rw [HLE2.out]; exact ⟨blk_set h2.st hR.rc bt_wt p _, blk_set h2.rs hR.rc wt_ut.symm p _⟩)
  clear hb1 hf1 hS hR hu
  go_wp2_with fail
  go_ret
  exact ⟨rfl, HRES.out.1, HRES.out.2⟩
end Hp
end Go.Proofs.Ytojblndlchcjeaa
