/- Chapter 17, the walk: the reference's Symbol. · Chapter 17, the walk: the reference's Global. -/
import Derived.Test.YtojblndlchcjeaaHpAc
import Derived.BigQuiet
import Derived.Deep.QuietTactic
set_option linter.unusedVariables false
namespace Go.Proofs.Ytojblndlchcjeaa
open Go.RowKit
namespace Hp
open Bs Sm
theorem rd_text {P : Program} (t dst e : TypeId) (h1 : P.underlying t = some (.slice e)) (h2 : P.underlying e = some (.int .u8)) (h3 : P.underlying dst = some .string) {S : Nat → Prop} {w : World} {v : Value} {l : List UInt8} (h : Rd S byV w v l) :
    (convert t dst v).run P w = .ok (.string ⟨l.toArray⟩) w := by
  obtain ⟨a, cap, rfl, k2, k3, k5, k4⟩ := h
  cases a with
  | none =>
    have hc := k5 rfl
    subst hc
    obtain rfl : l = [] := List.eq_nil_of_length_eq_zero (by omega)
    rw [run_convert_bytes_string w t dst e none [].length 0 h1 h2 h3]
    rfl
  | some a =>
    refine run_convert_bytes_back w t dst e a cap l h1 h2 h3 fun j hj => ?_
    obtain ⟨b, off, e1, -, -, e4⟩ := k4 (by omega)
    cases e1
    have e : (⟨b, off, none⟩ : Addr).add j = ⟨b, off + j, none⟩ := by unfold Addr.add; split <;> simp_all
    rw [e]
    exact e4 j _ (List.getElem?_eq_getElem hj)
def SymR (S : Nat → Prop) (b : Bts) (is : Bool) (w : World) (e : Ending) (w' : World) : Prop := ∃ a c, e = .returned (.tuple #[.slice a b.length c, .bool is]) ∧ Rd S byV w' (.slice a b.length c) b ∧ Below w.heap.size w w'
set_option maxRecDepth 100000 in
set_option maxHeartbeats 3200000 in
theorem rsym_some (S : Nat → Prop) (N last x k rn rc c13 : Nat) (ra : Option Addr) (lv : Value) (RW : List Nat) (l : List Ob) (o : Ob) (w : World) (hl : Obs S w lv l) (hat : ∀ o ∈ l, o.at_ ≤ 16777216) (hx : x < 18446744073709551616) (hk : idxO l x = some k) (ho : l[k]? = some o)
    (hr : Rd S uV w (.slice ra rn rc) RW) (h13 : RW[13]? = some c13) :
    Calls Try.prog 27 #[lkV N lv last (.slice ra rn rc), .int .u64 (x : Int)] w (SymR S o.bytes (decide (o.hd.cls = c13) && decide (o.hd.kind = 2)) w) := by
  have HF := Lib.hid (fun v (h : Obs S v lv l) => rfnd_some S N last x k rn rc ra lv l o v h hat hx hk ho)
  have HL := Lib.hid hl
  obtain ⟨a, cap, rfl, -, -⟩ := hl.form
  obtain ⟨m, hm⟩ : ∃ m, l.length = m := ⟨_, rfl⟩
  rw [hm] at HF HL ⊢
  obtain ⟨a', c', e', hle, hcm, hcn, hcell⟩ := hr
  have hrn : rn = RW.length := by cases e'; rfl
  have h13l := (List.getElem?_eq_some_iff.1 h13).1
  obtain ⟨gb, off, hra, -, hgl, hrd⟩ := hcell (by omega)
  have hra2 : ra = some ⟨gb, off, none⟩ := by cases e'; exact hra
  subst hra2
  have r13 := hrd 13 c13 h13
  unfold uV at r13
  have h13n : 13 < rn := by omega
  have hrni : (13 : Int) < (rn : Int) := by omega
  obtain ⟨p13, hp13⟩ : ∃ p, off + 13 = p := ⟨_, rfl⟩
  rw [hp13] at r13
  obtain ⟨W1, hal1⟩ : ∃ W, w.alloc (.cells #[.int .i64 (N : Int), .slice a m cap, .int .u32 (last : Int), .slice (some ⟨gb, off, none⟩) rn rc] LKT) = W := ⟨_, rfl⟩
  have b1 : Below w.heap.size w W1 := by rw [← hal1]; exact alloc_bel w _
  have q1 : Blk LKT w.heap.size #[.int .i64 (N : Int), .slice a m cap, .int .u32 (last : Int), .slice (some ⟨gb, off, none⟩) rn rc] W1 := by rw [← hal1]; exact Blk.made w
  have c0 : W1.cell? ⟨w.heap.size, 0, none⟩ = some (.int .i64 (N : Int)) := q1.c 0 _ rfl
  have c1 : W1.cell? ⟨w.heap.size, 1, none⟩ = some (.slice a m cap) := q1.c 1 _ rfl
  have c2 : W1.cell? ⟨w.heap.size, 2, none⟩ = some (.int .u32 (last : Int)) := q1.c 2 _ rfl
  have c3 : W1.cell? ⟨w.heap.size, 3, none⟩ = some (.slice (some ⟨gb, off, none⟩) rn rc) := q1.c 3 _ rfl
  have HL1 := Lib.hid (HL.out.bel b1)
  have HB1 := Lib.hid b1
  have HQ1 := Lib.hid q1
  have HR13 := Lib.hid (fun v (h : Below w.heap.size w v) => (World.cell?_of_block (a := ⟨gb, p13, none⟩) (h.block gb hgl)).trans r13)
  obtain ⟨OB, hOB⟩ : ∃ x, o.bytes = x := ⟨_, rfl⟩
  have HOB := Lib.hid hOB
  rw [hOB]
  obtain ⟨IS, hIS⟩ : ∃ x, (decide (o.hd.cls = c13) && decide (o.hd.kind = 2)) = x := ⟨_, rfl⟩
  have HIS := Lib.hid hIS
  rw [hIS]
  unfold lkV at HF ⊢
  clear hl hat hx hk ho hm b1 q1 hOB hIS e' hle hcm hcn hcell h13 h13l hra hrd r13 hgl hrn
  go_enter Try.func27, Try.ntmps27
  go_wp2_with fail
  refine (HF.out W1 HL1.out).mono ?_; rintro e w2 ⟨wv, bv, rfl, hrw, hrb, hb2⟩
  obtain ⟨wa, wc, rfl, -, -⟩ := hrw.form
  obtain ⟨ba, bc, rfl, -, -⟩ := hrb.form
  rw [HOB.out] at hrb ⊢
  obtain ⟨wn, hwn⟩ : ∃ m, o.words.length = m := ⟨_, rfl⟩
  obtain ⟨bn, hbn⟩ : ∃ m, OB.length = m := ⟨_, rfl⟩
  rw [hwn]
  rw [hbn] at hrb ⊢
  obtain ⟨at_, ⟨kc, kk, kz, kh, km⟩, OW', OB'⟩ := o
  unfold obV uV
  dsimp only
  obtain ⟨W3, hal3⟩ : ∃ W, w2.alloc (.cells #[.int .i64 (at_ : Int), .int .u64 (kc : Int), .int .i64 (kk : Int), .int .i64 (kz : Int), .int .u32 (kh : Int), .bool km, .slice wa wn wc, .slice ba bn bc] OT) = W := ⟨_, rfl⟩
  have b3 : Below w2.heap.size w2 W3 := by rw [← hal3]; exact alloc_bel w2 _
  have q3 : Blk OT w2.heap.size #[.int .i64 (at_ : Int), .int .u64 (kc : Int), .int .i64 (kk : Int), .int .i64 (kz : Int), .int .u32 (kh : Int), .bool km, .slice wa wn wc, .slice ba bn bc] W3 := by rw [← hal3]; exact Blk.made w2
  have d1 : W3.cell? ⟨w2.heap.size, 1, none⟩ = some (.int .u64 (kc : Int)) := q3.c 1 _ rfl
  have d2 : W3.cell? ⟨w2.heap.size, 2, none⟩ = some (.int .i64 (kk : Int)) := q3.c 2 _ rfl
  have d7 : W3.cell? ⟨w2.heap.size, 7, none⟩ = some (.slice ba bn bc) := q3.c 7 _ rfl
  have hb03 := (HB1.out.trans (hb2.mono HB1.out.size)).trans (b3.mono (Nat.le_trans HB1.out.size hb2.size))
  have e1 : W3.cell? ⟨w.heap.size, 1, none⟩ = some (.slice a m cap) := ((HQ1.out.below hb2 HQ1.out.lt).below b3 (HQ1.out.below hb2 HQ1.out.lt).lt).c 1 _ rfl
  have e3 : W3.cell? ⟨w.heap.size, 3, none⟩ = some (.slice (some ⟨gb, off, none⟩) rn rc) := ((HQ1.out.below hb2 HQ1.out.lt).below b3 (HQ1.out.below hb2 HQ1.out.lt).lt).c 3 _ rfl
  have e13 := HR13.out W3 hb03
  have HRES : Hid (∀ q, SymR S OB IS w (.returned (.tuple #[.slice ba bn bc, .bool IS])) (W3.drewN q)) := Lib.hid (fun q => ⟨_, _, by rw [hbn], by rw [hbn]; exact (hrb.below b3).below (below_drewN W3 q), hb03.trans ((below_drewN W3 q).mono hb03.size)⟩)
  clear hrw hrb hb2 hwn hbn b3 q3 HOB hb03
  by_cases hc : kc = c13
  · have hcd : ((kc : Int) == (c13 : Int)) = true := by simp [hc]
    by_cases hk2 : kk = 2
    · have hkd : ((kk : Int) == 2) = true := by simp [hk2]
      have hI : IS = true := by rw [← HIS.out]; simp [hc, hk2]
      subst hI
      clear hc hk2
      go_wp2_with fail
      go_quiet (fail)
      go_wp2_with fail
      go_ret2
      exact HRES.out _
    · have hkd : ((kk : Int) == 2) = false := by simp; omega
      have hI : IS = false := by rw [← HIS.out]; simp [hc, hk2]
      subst hI
      clear hc hk2
      go_wp2_with fail
      go_quiet (fail)
      go_wp2_with fail
      go_ret2
      exact HRES.out _
  · have hcd : ((kc : Int) == (c13 : Int)) = false := by simp; omega
    have hI : IS = false := by rw [← HIS.out]; simp [hc]
    subst hI
    clear hc
    go_wp2_with fail
    go_quiet (fail)
    go_wp2_with fail
    go_ret2
    exact HRES.out _
end Hp
end Go.Proofs.Ytojblndlchcjeaa
namespace Go.Proofs.Ytojblndlchcjeaa
open Go.RowKit
namespace Hp
open Bs Sm
theorem refG_skip (l : List Ob) (s : Bts) {ws : List Nat} {j a b : Nat} (ha : ws[2 * j]? = some a) (hb : ws[2 * j + 1]? = some b) : refG l s (ws.drop (2 * j)) = if bytesO l a = s then b else refG l s (ws.drop (2 * (j + 1))) := by
  have h1 : ws.drop (2 * j) = a :: b :: ws.drop (2 * (j + 1)) := by
    obtain ⟨k1, k2⟩ := List.getElem?_eq_some_iff.1 ha
    obtain ⟨k3, k4⟩ := List.getElem?_eq_some_iff.1 hb
    rw [List.drop_eq_getElem_cons k1, List.drop_eq_getElem_cons k3, k2, k4]
    rfl
  rw [h1]; rfl
theorem refG_end (l : List Ob) (s : Bts) {ws : List Nat} {j : Nat} (h : ws.length ≤ 2 * j + 1) : refG l s (ws.drop (2 * j)) = 0 := by
  by_cases h2 : 2 * j < ws.length
  · have : (ws.drop (2 * j)).length = 1 := by rw [List.length_drop]; omega
    match hd : ws.drop (2 * j), this with
    | [a], _ => rfl
  · rw [List.drop_eq_nil_of_le (by omega)]; rfl
set_option maxRecDepth 100000 in
set_option maxHeartbeats 3200000 in
theorem rglob_any (S : Nat → Prop) (N last kg rn rc g c13 : Nat) (ra : Option Addr) (lv : Value) (s : Bts) (RW : List Nat) (l : List Ob) (og : Ob) (w : World) (hl : Obs S w lv l) (hat : ∀ o ∈ l, o.at_ ≤ 16777216)
    (hr : Rd S uV w (.slice ra rn rc) RW) (h3 : RW[3]? = some g) (h13 : RW[13]? = some c13) (hg : g < 18446744073709551616) (hk : idxO l g = some kg) (ho : l[kg]? = some og)
    (hw16 : og.words.length ≤ 16777216) (hsy : ∀ i x, og.words[2 * i]? = some x → x < 18446744073709551616 ∧ ∃ k o, idxO l x = some k ∧ l[k]? = some o) :
    Calls Try.prog 11 #[lkV N lv last (.slice ra rn rc), .string ⟨s.toArray⟩] w (Back (uV (refG l s og.words)) w) := by
  have HWD := Lib.hid (fun v (h : Obs S v lv l) => rwds_some S N last g kg rn rc ra lv l og v h hat hg hk ho)
  have HSY := Lib.hid (fun v x k o (h : Obs S v lv l) (h2 : Rd S uV v (.slice ra rn rc) RW) (hx : x < 18446744073709551616) (hk : idxO l x = some k) (ho : l[k]? = some o) => rsym_some S N last x k rn rc c13 ra lv RW l o v h hat hx hk ho h2 h13)
  have HL := Lib.hid hl
  have HR := Lib.hid hr
  have HSX := Lib.hid hsy
  obtain ⟨a, cap, rfl, -, -⟩ := hl.form
  obtain ⟨m, hm⟩ : ∃ m, l.length = m := ⟨_, rfl⟩
  rw [hm] at HWD HL HSY ⊢
  obtain ⟨a', c', e', hle, hcm, hcn, hcell⟩ := hr
  have hrn : rn = RW.length := by cases e'; rfl
  have h13l := (List.getElem?_eq_some_iff.1 h13).1
  obtain ⟨gb, off, hra, -, hgl, hrd⟩ := hcell (by omega)
  have hra2 : ra = some ⟨gb, off, none⟩ := by cases e'; exact hra
  subst hra2
  have r3 := hrd 3 g h3
  unfold uV at r3
  have h3n : 3 < rn := by omega
  have hrni : (3 : Int) < (rn : Int) := by omega
  obtain ⟨p3, hp3⟩ : ∃ p, off + 3 = p := ⟨_, rfl⟩
  rw [hp3] at r3
  obtain ⟨W1, hal1⟩ : ∃ W, w.alloc (.cells #[.int .i64 (N : Int), .slice a m cap, .int .u32 (last : Int), .slice (some ⟨gb, off, none⟩) rn rc] LKT) = W := ⟨_, rfl⟩
  have b1 : Below w.heap.size w W1 := by rw [← hal1]; exact alloc_bel w _
  have q1 : Blk LKT w.heap.size #[.int .i64 (N : Int), .slice a m cap, .int .u32 (last : Int), .slice (some ⟨gb, off, none⟩) rn rc] W1 := by rw [← hal1]; exact Blk.made w
  have HL1 := Lib.hid (HL.out.bel b1)
  have HR1 := Lib.hid (HR.out.below b1)
  have HB1 := Lib.hid b1
  have HS1 := Lib.hid (show ∀ v, Below W1.heap.size W1 v → (v.cell? ⟨w.heap.size, 0, none⟩ = some (.int .i64 (N : Int)) ∧ v.cell? ⟨w.heap.size, 1, none⟩ = some (.slice a m cap) ∧ v.cell? ⟨w.heap.size, 2, none⟩ = some (.int .u32 (last : Int)) ∧ v.cell? ⟨w.heap.size, 3, none⟩ = some (.slice (some ⟨gb, off, none⟩) rn rc) ∧ v.cell? ⟨gb, p3, none⟩ = some (.int .u64 (g : Int))) from fun v hb => by
    have q := q1.below hb q1.lt
    exact ⟨q.c 0 _ rfl, q.c 1 _ rfl, q.c 2 _ rfl, q.c 3 _ rfl, (World.cell?_of_block (a := ⟨gb, p3, none⟩) ((b1.trans (hb.mono b1.size)).block gb hgl)).trans r3⟩)
  unfold lkV at HWD HSY ⊢
  clear hl hat hk ho hm b1 q1 e' hle hcm hcn hcell h13 h13l hra hrd r3 hgl hrn h3 hg hsy
  go_enter Try.func11, Try.ntmps11
  go_wp2_with fail
  refine wp_region_noPanic ?_
  refine Hd.start (fun v => v.cell? ⟨w.heap.size, 0, none⟩ = some (.int .i64 (N : Int)) ∧ v.cell? ⟨w.heap.size, 1, none⟩ = some (.slice a m cap) ∧ v.cell? ⟨w.heap.size, 2, none⟩ = some (.int .u32 (last : Int)) ∧ v.cell? ⟨w.heap.size, 3, none⟩ = some (.slice (some ⟨gb, off, none⟩) rn rc) ∧ v.cell? ⟨gb, p3, none⟩ = some (.int .u64 (g : Int))) (by kernel_rfl) (HS1.out _ (below_drewN W1 1)) (fun hH0 => ?_)
  refine Hd.tk 0 5 hH0 ?_
  refine Hd.tk 1 2 hH0 ?_
  refine Hd.tk 2 3 hH0 ?_
  refine Hd.tk 3 4 hH0 ?_
  refine Hd.tk 4 5 hH0 ?_
  refine Hd.on 5 (fun K hK => ?_)
  go_simp
  refine (HWD.out _ (HL1.out.bel (below_drewN W1 1))).mono ?_; rintro e w2 ⟨wv, rfl, hrw, hb2⟩
  have hb12 := (below_drewN W1 1).trans (hb2.mono (below_drewN W1 1).size)
  have HS2 := HS1.out w2 hb12
  have HB12 := Lib.hid hb12
  obtain ⟨wa, wc, rfl, hwl, hwm⟩ := hrw.form
  obtain ⟨ws, hws⟩ : ∃ x, og.words = x := ⟨_, rfl⟩
  rw [hws] at hrw HSX hwl ⊢
  have hwb : ws.length ≤ 16777216 := by rw [← hws]; exact hw16
  obtain ⟨n, hn⟩ : ∃ m, ws.length = m := ⟨_, rfl⟩
  rw [hn] at hrw hwb ⊢
  have HWW := Lib.hid hws
  have HWS := Lib.hid hrw
  have HN := Lib.hid hn
  clear hb2 hb12 hrw hwl hwm hws hn
  refine hK.out _ _ HS2 (fun hH1 => ?_)
  clear hK K
  try simp only [Act.put, List.setIfInBounds_toArray, List.set_cons_zero, List.set_cons_succ]
  refine Hd.la 6 (fun K hK => ?_)
  go_simp
  refine hK.out _ _ ?_
  clear hK K
  try simp only [Act.put, List.setIfInBounds_toArray, List.set_cons_zero, List.set_cons_succ]
  simp only [NoPanic]
  clear hH0 hH1 HS2
  go_wp2_with fail
  go_loopw [6, 7, 8] (fun x y z wr => ∃ j : Nat, x = .int .i64 ((2 * j : Nat) : Int) ∧ 2 * j ≤ n + 1 ∧ Hid (Below w2.heap.size w2 wr ∧ refG l s (ws.drop (2 * j)) = refG l s ws)) (fun x y z _ => n + 2 - (intOf x).toNat)
  case atStart => exact ⟨0, rfl, by omega, Lib.hid ⟨Below.refl _ _, rfl⟩⟩
  case round =>
    obtain ⟨j, rfl, hj, hI⟩ := hrel
    have hjw : IntKind.i64.wrap (((2 * j : Nat) : Int) + 1) = ((2 * j : Nat) : Int) + 1 := IntWalk.i64_in _ (by omega)
    have hjw2 : IntKind.i64.wrap (((2 * j : Nat) : Int) + 2) = ((2 * j : Nat) : Int) + 2 := IntWalk.i64_in _ (by omega)
    by_cases hjn : 2 * j + 1 < n
    · obtain ⟨x, hx⟩ : ∃ x, ws[2 * j]? = some x := ⟨_, List.getElem?_eq_getElem (by rw [HN.out]; omega)⟩
      obtain ⟨y, hy⟩ : ∃ y, ws[2 * j + 1]? = some y := ⟨_, List.getElem?_eq_getElem (by rw [HN.out]; omega)⟩
      obtain ⟨hxl, kx, ox, hkx, hox⟩ := HSX.out j x hx
      have hrr := HWS.out.below hI.out.1
      obtain ⟨wb, wo, x', hwa, hx', hwbl, hcx⟩ := hrr.at_ (2 * j) (by omega)
      obtain rfl : x' = x := by rw [hx] at hx'; exact (Option.some.inj hx').symm
      obtain ⟨wb2, wo2, y', hwa2, hy', -, hcy⟩ := hrr.at_ (2 * j + 1) (by omega)
      obtain rfl : y' = y := by rw [hy] at hy'; exact (Option.some.inj hy').symm
      subst hwa
      cases hwa2
      unfold uV at hcx hcy
      obtain ⟨pj, hpj⟩ : ∃ p, wo + 2 * j = p := ⟨_, rfl⟩
      obtain ⟨pk, hpk⟩ : ∃ p, wo + (2 * j + 1) = p := ⟨_, rfl⟩
      rw [hpj] at hcx
      rw [hpk] at hcy
      have HB13 := Lib.hid (HB12.out.trans (hI.out.1.mono HB12.out.size))
      have HS3 := Lib.hid (show ∀ v, Below wr.heap.size wr v → (v.cell? ⟨w.heap.size, 0, none⟩ = some (.int .i64 (N : Int)) ∧ v.cell? ⟨w.heap.size, 1, none⟩ = some (.slice a m cap) ∧ v.cell? ⟨w.heap.size, 2, none⟩ = some (.int .u32 (last : Int)) ∧ v.cell? ⟨w.heap.size, 3, none⟩ = some (.slice (some ⟨gb, off, none⟩) rn rc) ∧ v.cell? ⟨wb, pj, none⟩ = some (.int .u64 (x' : Int))) from fun v hb => by
        have h1 := HS1.out v (HB13.out.trans (hb.mono HB13.out.size))
        exact ⟨h1.1, h1.2.1, h1.2.2.1, h1.2.2.2.1, (World.cell?_of_block (a := ⟨wb, pj, none⟩) (hb.block wb hwbl)).trans hcx⟩)
      have HCY := Lib.hid (show ∀ v, Below wr.heap.size wr v → v.cell? ⟨wb, pk, none⟩ = some (.int .u64 (y' : Int)) from fun v hb => (World.cell?_of_block (a := ⟨wb, pk, none⟩) (hb.block wb hwbl)).trans hcy)
      have HLr := Lib.hid ((HL1.out.bel HB13.out).bel (below_drewN wr 1))
      have HRr := Lib.hid ((HR1.out.below HB13.out).below (below_drewN wr 1))
      have HCALL := Lib.hid (HSY.out _ x' kx ox HLr.out HRr.out hxl hkx hox)
      have HRG := Lib.hid (refG_skip l s (j := j) hx hy)
      have hbo : bytesO l x' = ox.bytes := by
        obtain ⟨o2, k1, k2, k3⟩ := idx_some hkx
        rw [hox] at k1
        obtain rfl := Option.some.inj k1
        unfold bytesO
        rw [k3]; rfl
      rw [hbo] at HRG
      obtain ⟨OB, hOB⟩ : ∃ x, ox.bytes = x := ⟨_, rfl⟩
      rw [hOB] at HCALL HRG
      obtain ⟨IS, hIS⟩ : ∃ x, (decide (ox.hd.cls = c13) && decide (ox.hd.kind = 2)) = x := ⟨_, rfl⟩
      rw [hIS] at HCALL
      obtain ⟨jj, hjj⟩ : ∃ i : Nat, 2 * j = i := ⟨_, rfl⟩
      have hjj2 : 2 * (j + 1) = jj + 2 := by omega
      have HI := Lib.hid hI.out
      have HJJ := Lib.hid hjj
      have hj1 : (jj : Int) + 1 < (n : Int) := by omega
      have hj0 : (jj : Int) < (n : Int) := by omega
      have hpj2 : wo + jj = pj := by omega
      have hpk2 : wo + (jj + 1) = pk := by omega
      rw [hjj] at hjw hjw2 ⊢
      clear hx hy hxl hkx hox hrr hx' hy' hwbl hcx hcy hpj hpk hbo hOB hIS hI hjj
      go_wp2_with fail
      refine wp_region_noPanic ?_
      refine Hd.start (fun v => v.cell? ⟨w.heap.size, 0, none⟩ = some (.int .i64 (N : Int)) ∧ v.cell? ⟨w.heap.size, 1, none⟩ = some (.slice a m cap) ∧ v.cell? ⟨w.heap.size, 2, none⟩ = some (.int .u32 (last : Int)) ∧ v.cell? ⟨w.heap.size, 3, none⟩ = some (.slice (some ⟨gb, off, none⟩) rn rc) ∧ v.cell? ⟨wb, pj, none⟩ = some (.int .u64 (x' : Int))) (by kernel_rfl) (HS3.out _ (below_drewN wr 1)) (fun hH0 => ?_)
      refine Hd.tk 0 5 hH0 ?_
      refine Hd.tk 1 3 hH0 ?_
      refine Hd.tk 2 3 hH0 ?_
      refine Hd.tk 3 4 hH0 ?_
      refine Hd.tk 4 5 hH0 ?_
      refine Hd.on 5 (fun K hK => ?_)
      go_simp
      refine HCALL.out.mono ?_; rintro e w5 ⟨ba, bc, rfl, hrb, hb5⟩
      have hbr5 := (below_drewN wr 1).trans (hb5.mono (below_drewN wr 1).size)
      have HS5 := HS3.out w5 hbr5
      have hc5 := HCY.out w5 hbr5
      have hcv : (convert 48 9 (.slice ba OB.length bc)).run Try.prog w5 = .ok (.string ⟨OB.toArray⟩) w5 := rd_text _ _ 5 (by kernel_rfl) (by kernel_rfl) (by kernel_rfl) hrb
      have HB5 := Lib.hid (HB13.out.trans (hbr5.mono HB13.out.size))
      have HBR := Lib.hid hbr5
      obtain ⟨bn, hbn⟩ : ∃ b, OB.length = b := ⟨_, rfl⟩
      rw [hbn] at hcv ⊢
      clear hb5 hbr5 hrb hbn
      refine hK.out _ _ HS5 (fun hH1 => ?_)
      clear hK K
      try simp only [Act.put, List.setIfInBounds_toArray, List.set_cons_zero, List.set_cons_succ]
      refine Hd.tk 6 7 hH1 ?_
      refine Hd.tk 7 9 hH1 ?_
      refine Hd.tk 8 10 hH1 ?_
      refine Hd.on 9 (fun K hK => ?_)
      go_simp
      refine hK.out _ _ HS5 (fun hH2 => ?_)
      clear hK K
      try simp only [Act.put, List.setIfInBounds_toArray, List.set_cons_zero, List.set_cons_succ]
      refine Hd.la 10 (fun K hK => ?_)
      go_simp
      refine hK.out _ _ ?_
      clear hK K
      try simp only [Act.put, List.setIfInBounds_toArray, List.set_cons_zero, List.set_cons_succ]
      simp only [NoPanic]
      clear hH0 hH1 hH2 HS5
      by_cases hes : OB = s
      · rw [if_pos hes] at HRG
        subst hes
        go_wp2_with fail
        go_ret
        exact ⟨by rw [HWW.out, ← HI.out.2, HJJ.out, ← HRG.out, HJJ.out]; rfl, HB1.out.trans (HB5.out.mono HB1.out.size)⟩
      · have hbf : (OB == s) = false := beq_eq_false_iff_ne.2 hes
        rw [if_neg hes] at HRG
        go_wp2_with fail
        exact ⟨⟨j + 1, by rw [hjj2]; rfl, by omega, Lib.hid ⟨HI.out.1.trans (HBR.out.mono HI.out.1.size), HRG.out.symm.trans HI.out.2⟩⟩, by simp only [intOf]; omega⟩
    · have hd : decide (((2 * j : Nat) : Int) + 1 < (n : Int)) = false := by rw [decide_eq_false_iff_not]; omega
      have HRE := Lib.hid (refG_end l s (ws := ws) (j := j) (by rw [HN.out]; omega))
      obtain ⟨jj, hjj⟩ : ∃ i : Nat, 2 * j = i := ⟨_, rfl⟩
      have HI := Lib.hid hI.out
      rw [hjj] at hjw hjw2 hd ⊢
      clear hI hj hjn hjj
      go_wp2_with fail
      go_ret
      exact ⟨by rw [HWW.out, ← HI.out.2, HRE.out]; rfl, HB1.out.trans ((HB12.out.trans (HI.out.1.mono HB12.out.size)).mono HB1.out.size)⟩
end Hp
end Go.Proofs.Ytojblndlchcjeaa
