/- The law TreeWraps (printed by gen_trl2.py, hdx.py). -/
import Derived.Test.YtfbhokdcnjekiaaGreatDoorTrL0
import Derived.Test.YtfbhokdcnjekiaaGreatDoorTrR5
set_option linter.unusedVariables false
namespace Go.Proofs.YtfbhokdcnjekiaaGreatDoor
open Go.RowKit
namespace Hd
/-- Three may come up. -/
theorem three {P : Program} {md : Region.Mode} {ops : Array Oper} {Q : Exit → Act → World → Prop} {S : World → Prop} (i j k : Nat) {o p q : Oper} {fuel : Nat} {listed : Array Bool} {a : Act} {w : World} (ho : ops[i]? = some o) (hp : ops[j]? = some p) (hq : ops[k]? = some q) (hr : Region.ready md ops listed = [i, j, k])
  (h : ∀ K' : Act → World → Prop, Shut (∀ a w, S w → (S w → wpE P md ops Q S fuel (listed.setIfInBounds i true) a w) → K' a w) → if Region.wanted o (yielded ops a.tmps) = true then Oper.wp P o a w K' Q else K' (a.put o.dst undef) w)
  (h2 : ∀ K' : Act → World → Prop, Shut (∀ a w, S w → (S w → wpE P md ops Q S fuel (listed.setIfInBounds j true) a w) → K' a w) → if Region.wanted p (yielded ops a.tmps) = true then Oper.wp P p a w K' Q else K' (a.put p.dst undef) w)
  (h3 : ∀ K' : Act → World → Prop, Shut (∀ a w, S w → (S w → wpE P md ops Q S fuel (listed.setIfInBounds k true) a w) → K' a w) → if Region.wanted q (yielded ops a.tmps) = true then Oper.wp P q a w K' Q else K' (a.put q.dst undef) w) : wpE P md ops Q S (fuel + 1) listed a w :=
 ⟨fun h0 => (by rw [hr] at h0; cases h0), fun m hm => by
  rw [hr] at hm
  rcases List.mem_cons.1 hm with rfl | hm
  · exact wpOp_step ho (fun K' hK => h K' (fun a w hS hW => hK a w ⟨fun _ => hS, hW hS⟩))
  · rcases List.mem_cons.1 hm with rfl | hm
    · exact wpOp_step hp (fun K' hK => h2 K' (fun a w hS hW => hK a w ⟨fun _ => hS, hW hS⟩))
    · obtain rfl := List.mem_singleton.1 hm
      exact wpOp_step hq (fun K' hK => h3 K' (fun a w hS hW => hK a w ⟨fun _ => hS, hW hS⟩))⟩
end Hd
namespace Tr
open Bs Sm
theorem Tree.vl {S : Nat → Prop} {w : World} {a : Option Addr} {n cap : Nat} {l : List Nd} (h : Tree S w (.slice a n cap) l) : ∃ vl : VL, vl.map (·.1) = l ∧ vl.length = n ∧
  (0 < n → ∃ b off, a = some ⟨b, off, none⟩ ∧ S b ∧ b < w.heap.size ∧ ∀ i x, vl[i]? = some x → Row w b (off + i * 6) x.1 x.2.1 x.2.2) ∧ ∀ x ∈ vl, Tree S w x.2.1 x.1.kids ∧ Rd S strV w x.2.2 x.1.names := by
 generalize hv : Value.slice a n cap = v at h
 cases h with
 | mk vl a cap h1 h2 h3 hc hk hn =>
  cases hv
  exact ⟨vl, rfl, rfl, hc, fun x hx => ⟨hk x hx, hn x hx⟩⟩
theorem flat_cells {w : World} {b : Nat} : ∀ (vl : VL) (off : Nat), (∀ i x, vl[i]? = some x → Row w b (off + i * 6) x.1 x.2.1 x.2.2) → ∀ j u, (flatN vl)[j]? = some u → w.cell? ⟨b, off + j, none⟩ = some u
 | [], off, _, j, u, h => by simp [flatN] at h
 | x :: vl, off, h, j, u, hj => by
  have e : flatN (x :: vl) = ndC x.1 x.2.1 x.2.2 ++ flatN vl := rfl
  rw [e] at hj
  have hl : (ndC x.1 x.2.1 x.2.2).length = 6 := rfl
  by_cases h6 : j < 6
  · rw [List.getElem?_append_left (by omega)] at hj
    obtain ⟨r0, r1, r2, r3, r4, r5⟩ := h 0 x rfl
    simp only [Nat.zero_mul, Nat.add_zero] at r0 r1 r2 r3 r4 r5
    match j, h6 with
    | 0, _ => simp [ndC] at hj; subst hj; exact r0
    | 1, _ => simp [ndC] at hj; subst hj; exact r1
    | 2, _ => simp [ndC] at hj; subst hj; exact r2
    | 3, _ => simp [ndC] at hj; subst hj; exact r3
    | 4, _ => simp [ndC] at hj; subst hj; exact r4
    | 5, _ => simp [ndC] at hj; subst hj; exact r5
  · rw [List.getElem?_append_right (by omega), hl] at hj
    have := flat_cells vl (off + 6) (fun i y hy => by
     have := h (i + 1) y (by simpa using hy)
     rw [show off + (i + 1) * 6 = off + 6 + i * 6 by omega] at this
     exact this) (j - 6) u hj
    rw [show off + 6 + (j - 6) = off + j by omega] at this
    exact this
theorem flat_one {S : Nat → Prop} {w : World} (vl : VL) (h : ∀ x ∈ vl, Tree S w x.2.1 x.1.kids ∧ Rd S strV w x.2.2 x.1.names) : ∀ u ∈ flatN vl, u.oneCell' = true := by
 intro u hu
 unfold flatN at hu
 obtain ⟨x, hx, hu⟩ := List.mem_flatMap.1 hu
 obtain ⟨h1, h2⟩ := h x hx
 obtain ⟨a1, c1, e1, _⟩ := h1.form
 obtain ⟨a2, c2, e2, _⟩ := h2.form
 unfold ndC at hu
 rw [e1, e2] at hu
 simp only [List.mem_cons, List.not_mem_nil, or_false] at hu
 rcases hu with rfl | rfl | rfl | rfl | rfl | rfl <;> rfl
/-- An append onto a row of one's own, of any length. -/
theorem step_own {P : Program} {w : World} {ops : Array Oper} {o : Oper} {a : Act} {K : Act → World → Prop} {Q : Exit → Act → World → Prop} {E' : Prop} (hg : o.guard = none) (s x : Operand) (t : TypeId)
  (hop : o.op = Op.call { callee := Callee.builtin Builtin.append, args := #[s, x], argTypes := #[t, t] }) (base : Nat) (e : TypeId) (i : TypeInfo) (z : Value) (size bytes : Nat) (ht : P.underlying t = some (.slice e)) (hi : P.info? e = some i) (hz : i.zero = some z)
  (hsize : i.size = size) (hby : i.bytes = bytes) (hzs : z.cells.size = size) (hsz : 0 < size)
  (v : Value) (n : Nat) (xs : List Value) (hs : a.eval s = v) (hown : w.ownsRow base e size v n xs)
  (ad : Addr) (m c : Nat) (news : List Value) (hx : a.eval x = .slice (some ad) m c) (hl : news.length = m * size) (hnews : ∀ j u, news[j]? = some u → w.cell? (ad.add j) = some u) (h1 : ∀ u ∈ news, u.oneCell' = true)
  (h63 : n + m ≤ maxLen) (hbytes : (n + m) * bytes ≤ 140737488355328) (hbase : base ≤ w.heap.size)
  (hK : ∀ v' w', w'.ownsRow base e size v' (n + m) (xs ++ news) → w.grownBy w' v.ownBlock → (v'.ownBlock = v.ownBlock ∨ v'.ownBlock = some w.heap.size) → K (a.put o.dst v') w') :
  if Region.wanted o (yielded ops a.tmps) = true then Oper.wp P o a w K Q else E' := by
 have hw : Region.wanted o (yielded ops a.tmps) = true := by simp [Region.wanted, hg]
 rw [if_pos hw]
 obtain ⟨v', w', hrun, r1, r2, _, r3⟩ := run_append_own_at (P := P) w base t o.type e i z size bytes ht hi hz hsize hby hzs hsz v n xs hown ad m c news hl hnews h1 h63 hbytes hbase
 unfold Oper.wp
 simp [execOp, hop, resolve, invoke, builtin, hs, hx, hrun, Result.andThen]
 exact hK v' w' r1 r2 r3
theorem add_flat' {b off i : Nat} : (⟨b, off, none⟩ : Addr).add i = ⟨b, off + i, none⟩ := by unfold Addr.add; split <;> simp_all
theorem own_clean (M : Mt) (hm : Mild M.body) (h1 : M.params.length ≤ 15) (h2 : M.temps.length ≤ 15) (pv tv bv : Value) (v : World) (h : MtAt (fun _ => True) v M pv tv bv) :
  Calls Tryz.prog 9 #[mtV M pv tv bv] v (fun e v' => Below v.heap.size v v' ∧ ∃ xa xc ya yc za zc, e = .returned (.agg #[.string ⟨M.name.toArray⟩, .slice xa M.params.length xc, .slice ya M.temps.length yc, .int .i64 M.prim, .slice za M.body.length zc, .int .i64 M.at_]) ∧
   MtAt (fun b => v.heap.size ≤ b ∧ b < v'.heap.size) v' M (.slice xa M.params.length xc) (.slice ya M.temps.length yc) (.slice za M.body.length zc)) := by
 refine (own_any M hm h1 h2 pv tv bv v h).mono ?_
 rintro e v' ⟨hb, pv', tv', bv', rfl, hp, ht, hbd⟩
 have hlo : ∀ g, bv'.ownBlock = some g → v.heap.size ≤ g := fun g hg => by obtain ⟨vl, -, ho, -⟩ := hbd; exact (ho.lt g hg).1
 have hx : MtAt (fun b => v.heap.size ≤ b ∧ b < v'.heap.size) v' M pv' tv' bv' := ⟨hp.mono (fun b hb hl => ⟨hb, hl⟩), ht.mono (fun b hb hl => ⟨hb, hl⟩), hbd.tree.mono (fun b hb hl => ⟨by
  rcases hb with hb | hb
  · exact hb
  · exact hlo b hb, hl⟩)⟩
 obtain ⟨xa, xc, ya, yc, za, zc, rfl, rfl, rfl⟩ := hx.form
 exact ⟨hb, xa, xc, ya, yc, za, zc, rfl, hx⟩
theorem few_le (l : List Nd) (d : Nat) : cntL (fewL d 200 l).1 ≤ 200 := by have := few_cnt l d 200; omega
theorem wrap_mild {b : Nd} {l : List Nd} (h : Mild (b :: l)) (hc : cntL (b :: l) ≤ 200) : Mild (wrap b :: l) := by
 refine ⟨by rw [wrap_cnt]; omega, fun x hx => ?_⟩
 rw [allL_cons] at hx
 rcases List.mem_cons.1 hx with rfl | hx
 · exact ⟨show ([102, 111, 111] : Bytes).length ≤ 5000 by decide, show ([] : List Bytes).length ≤ 9 by decide, show (-9223372036854775808 : Int) ≤ 0 by decide, show (0 : Int) ≤ 9223372036854775807 by decide⟩
 · refine h.fair x ?_
   rw [allL_cons]
   have e : (wrap b).kids = [b] := rfl
   rw [e, allL_cons, allL_nil] at hx
   simpa using hx
set_option maxRecDepth 100000 in
set_option maxHeartbeats 3200000 in
theorem wraps_walk (m : Mt) (nmx : ByteArray) (pv tv bv : Value) (hin : ∀ x ∈ allL m.body, InI x) (w : World) (hm : MtAt (fun _ => True) w m pv tv bv) (hpow : Pow10 w) (herr : ErrVar w) (hmax : MaxV w) :
  Calls Tryz.prog 5 #[mtV m pv tv bv, .string nmx] w (Back (.bool true) w) := by
 have hmB := hm.mono (S' := fun b => b < w.heap.size) (fun b _ hl => hl)
 obtain ⟨pa0, pc0, ta0, tc0, ba0, bc0, rfl, rfl, rfl⟩ := hm.form
 obtain ⟨M, hM⟩ : ∃ M, cutM m = M := ⟨_, rfl⟩
 have hmild : Mild M.body := by rw [← hM]; exact few_mild m.body hin 60
 have hpl15 : M.params.length ≤ 15 := by rw [← hM]; show (m.params.take 15).length ≤ 15; rw [List.length_take]; omega
 have htl15 : M.temps.length ≤ 15 := by rw [← hM]; show (m.temps.take 15).length ≤ 15; rw [List.length_take]; omega
 have HX := Lib.hid (alloc_bel w (.cells #[.string ⟨m.name.toArray⟩, .slice pa0 m.params.length pc0, .slice ta0 m.temps.length tc0, .int .i64 m.prim, .slice ba0 m.body.length bc0, .int .i64 m.at_] 25))
 have HK0 := Lib.hid (Blk.made (T := 25) (cs := #[.string ⟨m.name.toArray⟩, .slice pa0 m.params.length pc0, .slice ta0 m.temps.length tc0, .int .i64 m.prim, .slice ba0 m.body.length bc0, .int .i64 m.at_]) w)
 have HAW := Lib.hid (awake_any _ (hpow.below HX.out) (hmax.below HX.out) (herr.below HX.out))
 have HMB := Lib.hid hmB
 have HMI := Lib.hid hmild
 have HM := Lib.hid hM
 clear hm hmB hpow herr hmax hmild hM hin
 unfold mtV
 go_enter Tryz.func5, Tryz.ntmps5
 go_wp2_with fail
 refine HAW.out.mono ?_; rintro e w1 ⟨rfl, hb1⟩
 have hk1 := HK0.out.below hb1 HK0.out.lt
 have hb01 := HX.out.trans (hb1.mono HX.out.size)
 have HCUT := Lib.hid (cutm_any w.heap.size m _ _ _ w1 hb01.size (HMB.out.kp (Kp.lt hb01)))
 rw [HM.out] at HCUT
 unfold mtV at HCUT
 have c0 := hk1.c 0 _ rfl
 have c1 := hk1.c 1 _ rfl
 have c2 := hk1.c 2 _ rfl
 have c3 := hk1.c 3 _ rfl
 have c4 := hk1.c 4 _ rfl
 have c5 := hk1.c 5 _ rfl
 have HK1 := Lib.hid hk1
 have HB01 := Lib.hid hb01
 clear hb1 hk1 hb01
 go_wp2_with fail
 refine HCUT.out.mono ?_; rintro e w2 ⟨hb2, pv', tv', bv', rfl, hm2⟩
 obtain ⟨pa, pc, ta, tc, ba, bc, rfl, rfl, rfl⟩ := hm2.form
 have hk2 := HK1.out.below hb2 HK1.out.lt
 have hsz := HK1.out.lt
 have hf := hk2.fz
 have hlt := hk2.lt
 have e0 := hk2.c 0 _ rfl
 have e1 := hk2.c 1 _ rfl
 have e2 := hk2.c 2 _ rfl
 have e3 := hk2.c 3 _ rfl
 have e4 := hk2.c 4 _ rfl
 have e5 := hk2.c 5 _ rfl
 have HB02 := Lib.hid (HB01.out.trans (hb2.mono HB01.out.size))
 have HK2 := Lib.hid hk2
 have HM2 := Lib.hid hm2
 clear c0 c1 c2 c3 c4 c5 hk2 hm2 hb2 HCUT
 go_upto_region 4 with fail
 generalize hW3 : World.setCell _ _ _ = W3
 obtain ⟨pl, hpl⟩ : ∃ n, M.params.length = n := ⟨_, rfl⟩
 obtain ⟨tl, htl⟩ : ∃ n, M.temps.length = n := ⟨_, rfl⟩
 obtain ⟨bl, hbl⟩ : ∃ n, M.body.length = n := ⟨_, rfl⟩
 rw [hpl, htl, hbl] at HM2 hW3
 have htwo : Two w.heap.size w.heap.size w2 W3 := by rw [← hW3]; exact six_two _ _ _ _ _ _ _
 have hk3 : Blk 25 w.heap.size #[.string ⟨M.name.toArray⟩, .slice pa pl pc, .slice ta tl tc, .int .i64 M.prim, .slice ba bl bc, .int .i64 M.at_] W3 := by rw [← hW3]; exact six HK2.out _ _ _ _ _ _
 have hm3 := (HM2.out.two htwo (fun b hb => by omega)).mono (S' := fun _ => True) (fun _ _ _ => trivial)
 have HB03 := Lib.hid (htwo.bel HB02.out (Nat.le_refl _))
 have hc200 : cntL M.body ≤ 200 := by rw [← HM.out]; exact few_le m.body 60
 have HC200 := Lib.hid hc200
 have HRC := Lib.hid (rcheck_any M _ _ _ (by omega) W3 hm3)
 obtain ⟨ck, hck⟩ : ∃ c, checkM M = c := ⟨_, rfl⟩
 rw [hck] at HRC
 unfold mtV at HRC
 have c0 := hk3.c 0 _ rfl
 have c1 := hk3.c 1 _ rfl
 have c2 := hk3.c 2 _ rfl
 have c3 := hk3.c 3 _ rfl
 have c4 := hk3.c 4 _ rfl
 have c5 := hk3.c 5 _ rfl
 have HK3 := Lib.hid hk3
 have HM3 := Lib.hid hm3
 have HPL := Lib.hid hpl
 have HTL := Lib.hid htl
 have HBL := Lib.hid hbl
 have HCK := Lib.hid hck
 clear hW3 htwo hk3 hm3 HM2 HK2 HB02 hf hlt hpl htl hbl e0 e1 e2 e3 e4 e5 hck hc200 HK0 HX HK1 HB01
 by_cases h0 : ck = 0
 case neg =>
  have b0 : (ck == 0) = false := beq_eq_false_iff_ne.2 h0
  have b0n : (ck != 0) = true := by simp [bne, b0]
  go_wp2_with fail
  refine HRC.out.mono ?_; rintro e w4 ⟨rfl, hb4⟩
  have HB04 := Lib.hid (HB03.out.trans (hb4.mono HB03.out.size))
  clear hb4
  go_wp2_with fail
  go_ret
  exact ⟨rfl, HB04.out⟩
 subst h0
 go_wp2_with fail
 refine HRC.out.mono ?_; rintro e w4 ⟨rfl, hb4⟩
 have hk4 := HK3.out.below hb4 HK3.out.lt
 have HB04 := Lib.hid (HB03.out.trans (hb4.mono HB03.out.size))
 have HM4 := Lib.hid (HM3.out.bel hb4)
 have HK4 := Lib.hid hk4
 clear hb4 c0 c1 c2 c3 c4 c5 HRC HM3 HK3 HB03
 have c0 := hk4.c 0 _ rfl
 have c1 := hk4.c 1 _ rfl
 have c2 := hk4.c 2 _ rfl
 have c3 := hk4.c 3 _ rfl
 have c4 := hk4.c 4 _ rfl
 have c5 := hk4.c 5 _ rfl
 clear hk4
 have hml : bl ≤ bc ∧ bc ≤ maxLen := by obtain ⟨e, h1, h2⟩ := HM4.out.body.len; omega
 unfold maxLen at hml
 obtain ⟨vl, hvl, hvn, hvr, hvs⟩ := HM4.out.body.vl
 by_cases hbl0 : bl = 0
 case pos =>
  have z0 : ((bl : Int) == 0) = true := beq_iff_eq.2 (by omega)
  clear hbl0
  go_wp2_with fail
  go_ret
  exact ⟨rfl, HB04.out⟩
 have z0 : ((bl : Int) == 0) = false := beq_eq_false_iff_ne.2 (by omega)
 obtain ⟨gb, off, hba, -, hgb, hrows⟩ := hvr (by omega)
 subst hba
 obtain ⟨⟨b, bkv, bnv⟩, rest, hvlc⟩ : ∃ x r, vl = x :: r := by
  cases vl with
  | nil => simp at hvn; omega
  | cons x r => exact ⟨x, r, rfl⟩
 subst hvlc
 have hrow0 := hrows 0 _ rfl
 simp only [Nat.zero_mul, Nat.add_zero] at hrow0
 obtain ⟨hbk, hbn⟩ := hvs _ (List.mem_cons_self ..)
 obtain ⟨bka, bkc, ebk, _⟩ := hbk.form
 obtain ⟨bna, bnc, ebn, _⟩ := hbn.form
 dsimp only at ebk ebn hrow0 hbk hbn
 subst ebk
 subst ebn
 have HROW := Lib.hid hrow0
 obtain ⟨q0, q1, q2, q3, q4, q5⟩ := hrow0
 have hb0 : 0 < bl := by omega
 have hlim : decide ((0 : Int) < (bl : Int)) = true := decide_eq_true (by omega)
 by_cases h10 : b.kind = 10
 case pos =>
  rw [h10] at q0
  go_wp2_with fail
  go_ret
  exact ⟨rfl, HB04.out⟩
 have b10 : (b.kind == 10) = false := beq_eq_false_iff_ne.2 h10
 have H10 := Lib.hid h10
 have HVL := Lib.hid hvl
 have HVN := Lib.hid hvn
 have HVR := Lib.hid hrows
 have HVS := Lib.hid hvs
 clear h10 hvl hvn hvr hvs hrows hbk hbn hbl0
 obtain ⟨i0, hi0, hz0, hz1, hz2⟩ := info_parts (show (Tryz.prog.info? 45).map (fun i => (i.zero, i.size, i.bytes)) = some (some (.agg #[.int .i64 0, .string ⟨#[]⟩, .int .i64 0, .slice none 0 0, .slice none 0 0, .int .i64 0]), 6, 88) by kernel_rfl)
 have tsl : Tryz.prog.underlying 23 = some (.slice 45) := by kernel_rfl
 have hk5m := Blk.made (T := 25) (cs := #[.string ⟨M.name.toArray⟩, .slice pa pl pc, .slice ta tl tc, .int .i64 M.prim, .slice (some ⟨gb, off, none⟩) bl bc, .int .i64 M.at_]) w4
 have hbd := alloc_bel w4 (.cells #[.string ⟨M.name.toArray⟩, .slice pa pl pc, .slice ta tl tc, .int .i64 M.prim, .slice (some ⟨gb, off, none⟩) bl bc, .int .i64 M.at_] 25)
 obtain ⟨k5, hk5⟩ : ∃ k, w4.heap.size = k := ⟨_, rfl⟩
 obtain ⟨w6, hw6⟩ : ∃ W, w4.alloc (.cells #[.string ⟨M.name.toArray⟩, .slice pa pl pc, .slice ta tl tc, .int .i64 M.prim, .slice (some ⟨gb, off, none⟩) bl bc, .int .i64 M.at_] 25) = W := ⟨_, rfl⟩
 rw [hw6] at hk5m hbd
 rw [hk5] at hk5m
 have HK5 := Lib.hid hk5m
 have hk5l := hk5m.lt
 have hk5w : w.heap.size < k5 := by have := HK4.out.lt; omega
 have hk5g : gb < k5 := by omega
 have HB46 := Lib.hid hbd
 have HB06 := Lib.hid (HB04.out.trans (hbd.mono HB04.out.size))
 have HK6 := Lib.hid (HK4.out.below hbd HK4.out.lt)
 have HM6 : Hid (MtAt (fun x => x < k5) w6 M (.slice pa pl pc) (.slice ta tl tc) (.slice (some ⟨gb, off, none⟩) bl bc)) := Lib.hid ((HM4.out.mono (S' := fun x => x < k5) (fun x _ hl => by omega)).bel hbd)
 have HRN : Hid (rest.length = bl - 1) := Lib.hid (by have := HVN.out; simp at this; omega)
 have HFC : Hid (∀ v, Below w6.heap.size w6 v → ∀ j u, (flatN rest)[j]? = some u → v.cell? ⟨gb, off + 6 + j, none⟩ = some u) := Lib.hid (fun v hv j u hj => by
  have h1 := flat_cells (w := w4) (b := gb) rest (off + 6) (fun i y hy => by
   have := HVR.out (i + 1) y (by simpa using hy)
   rw [show off + (i + 1) * 6 = off + 6 + i * 6 by omega] at this
   exact this) j u hj
  exact ((HB46.out.trans (hv.mono HB46.out.size)).cell (p := ⟨gb, off + 6 + j, none⟩) hgb).trans h1)
 have HSUB : Hid (∀ v, Below w6.heap.size w6 v → ∀ y ∈ ((b, .slice bka b.kids.length bkc, .slice bna b.names.length bnc) : Nd × Value × Value) :: rest, Tree (fun x => x < k5) v y.2.1 y.1.kids ∧ Rd (fun x => x < k5) strV v y.2.2 y.1.names) := Lib.hid (fun v hv y hy => by
  obtain ⟨t1, t2⟩ := HVS.out y hy
  have hb := HB46.out.trans (hv.mono HB46.out.size)
  exact ⟨(t1.mono (S' := fun x => x < k5) (fun x _ hl => by omega)).bel hb, (t2.mono (S' := fun x => x < k5) (fun x _ hl => by omega)).below hb⟩)
 have HF1 := Lib.hid (flat_one rest (fun x hx => HVS.out x (List.mem_cons_of_mem _ hx)))
 have HBOD : Hid (M.body = b :: rest.map (·.1)) := Lib.hid (by rw [← HVL.out]; rfl)
 have hS7 : ∀ v, Below w6.heap.size w6 v → (v.cell? ⟨w.heap.size, 4, none⟩ = some (.slice (some ⟨gb, off, none⟩) bl bc) ∧ (v.cell? ⟨gb, off, none⟩ = some (.int .i64 b.kind) ∧ v.cell? ⟨gb, off + 1, none⟩ = some (.string ⟨b.name.toArray⟩) ∧ v.cell? ⟨gb, off + 2, none⟩ = some (.int .i64 b.num) ∧ v.cell? ⟨gb, off + 3, none⟩ = some (.slice bka b.kids.length bkc) ∧ v.cell? ⟨gb, off + 4, none⟩ = some (.slice bna b.names.length bnc) ∧ v.cell? ⟨gb, off + 5, none⟩ = some (.int .i64 b.at_))) := fun v hv => by
  have hb := HB46.out.trans (hv.mono HB46.out.size)
  have hr := HROW.out.kp (w' := v) (fun i => hb.cell (p := ⟨gb, i, none⟩) hgb)
  exact ⟨(HK6.out.below hv HK6.out.lt).c 4 _ rfl, hr⟩
 have hb1i : (1 : Int) ≤ (bl : Int) := by omega
 have hbl9 : bl ≤ 201 := by have h1 := HVN.out; have h2 := HMI.out.few; have h3 := len_le_cnt M.body; have h4 := congrArg List.length HVL.out; simp at h1 h4; omega
 clear hk5m hbd
 go_upto_region 7 with fail
 clear hw6 hk5 c0 c1 c2 c3 c4 c5 q0 q1 q2 q3 q4 q5
 go_cut [44] (fun s44 wx => ∃ na nc, Blk 25 k5 #[.string ⟨M.name.toArray⟩, .slice pa pl pc, .slice ta tl tc, .int .i64 M.prim, .slice na bl nc, .int .i64 M.at_] wx ∧ Blk 25 w.heap.size #[.string ⟨M.name.toArray⟩, .slice pa pl pc, .slice ta tl tc, .int .i64 M.prim, .slice (some ⟨gb, off, none⟩) bl bc, .int .i64 M.at_] wx ∧ MtAt (fun _ => True) wx M (.slice pa pl pc) (.slice ta tl tc) (.slice (some ⟨gb, off, none⟩) bl bc) ∧ Tree (fun _ => True) wx (.slice na bl nc) (wrap b :: rest.map (·.1)) ∧ Below w.heap.size w wx)
 case first =>
  by_cases hb1 : bc = 1
  · have hbl1 : bl = 1 := by omega
    subst hb1
    subst hbl1
    refine wp_region_noPanic ?_
    refine Hd.start (fun v => v.cell? ⟨w.heap.size, 4, none⟩ = some (.slice (some ⟨gb, off, none⟩) 1 1) ∧ (v.cell? ⟨gb, off, none⟩ = some (.int .i64 b.kind) ∧ v.cell? ⟨gb, off + 1, none⟩ = some (.string ⟨b.name.toArray⟩) ∧ v.cell? ⟨gb, off + 2, none⟩ = some (.int .i64 b.num) ∧ v.cell? ⟨gb, off + 3, none⟩ = some (.slice bka b.kids.length bkc) ∧ v.cell? ⟨gb, off + 4, none⟩ = some (.slice bna b.names.length bnc) ∧ v.cell? ⟨gb, off + 5, none⟩ = some (.int .i64 b.at_))) (by kernel_rfl) (hS7 _ (Below.refl _ w6).drew) (fun hH0 => ?_)
    refine Hd.take 0 1 (oi := ?_) (v := ?_) ?_ (by kernel_rfl) (fun _ _ _ h => h) hH0 ?_ ?_ ?_
    rotate_left 2
    · simp only [Hd.ga, Hd.gz]
      exact rfl
    · rfl
    · intro w hSw
      (try dsimp only at hSw)
      go_simp
      try with_reducible rfl
    try simp only [Act.put, Hd.sa, Hd.sz, Hd.ss]
    refine Hd.take 1 2 (oi := ?_) (v := ?_) ?_ (by kernel_rfl) (fun _ _ _ h => h) hH0 ?_ ?_ ?_
    rotate_left 2
    · simp only [Hd.ga, Hd.gs, Hd.gz]
      exact rfl
    · rfl
    · intro w hSw
      (try dsimp only at hSw)
      go_simp
      try with_reducible rfl
    try simp only [Act.put, Hd.sa, Hd.sz, Hd.ss]
    refine Hd.take 2 3 (oi := ?_) (v := ?_) ?_ (by kernel_rfl) (fun _ _ _ h => h) hH0 ?_ ?_ ?_
    rotate_left 2
    · simp only [Hd.ga, Hd.gs, Hd.gz]
      exact rfl
    · rfl
    · intro w hSw
      (try dsimp only at hSw)
      go_simp
      try with_reducible rfl
    try simp only [Act.put, Hd.sa, Hd.sz, Hd.ss]
    refine Hd.take 3 4 (oi := ?_) (v := ?_) ?_ (by kernel_rfl) (fun _ _ _ h => h) hH0 ?_ ?_ ?_
    rotate_left 2
    · simp only [Hd.ga, Hd.gs, Hd.gz]
      exact rfl
    · rfl
    · intro w hSw
      (try dsimp only at hSw)
      go_simp
      try with_reducible rfl
    try simp only [Act.put, Hd.sa, Hd.sz, Hd.ss]
    refine Hd.take 7 8 (oi := ?_) (v := ?_) ?_ (by kernel_rfl) (fun _ _ _ h => h) hH0 ?_ ?_ ?_
    rotate_left 2
    · simp only [Hd.ga, Hd.gs, Hd.gz]
      exact rfl
    · rfl
    · intro w hSw
      (try dsimp only at hSw)
      go_simp
      try with_reducible rfl
    try simp only [Act.put, Hd.sa, Hd.sz, Hd.ss]
    refine Hd.take 8 9 (oi := ?_) (v := ?_) ?_ (by kernel_rfl) (fun _ _ _ h => h) hH0 ?_ ?_ ?_
    rotate_left 2
    · simp only [Hd.ga, Hd.gs, Hd.gz]
      exact rfl
    · rfl
    · intro w hSw
      (try dsimp only at hSw)
      go_simp
      try with_reducible rfl
    try simp only [Act.put, Hd.sa, Hd.sz, Hd.ss]
    refine Hd.take 9 10 (oi := ?_) (v := ?_) ?_ (by kernel_rfl) (fun _ _ _ h => h) hH0 ?_ ?_ ?_
    rotate_left 2
    · simp only [Hd.ga, Hd.gs, Hd.gz]
      exact rfl
    · rfl
    · intro w hSw
      (try dsimp only at hSw)
      go_simp
      try with_reducible rfl
    try simp only [Act.put, Hd.sa, Hd.sz, Hd.ss]
    refine Hd.one 4 4 (o := ?_) ?_ (by kernel_rfl) (fun K hK => ?_)
    rotate_left 1
    · simp only [Hd.ga, Hd.gs, Hd.gz]
      exact rfl
    go_simp
    have hmk : Blk RT w6.heap.size #[.int .i64 b.kind, .string ⟨b.name.toArray⟩, .int .i64 b.num, .slice bka b.kids.length bkc, .slice bna b.names.length bnc, .int .i64 b.at_] (w6.alloc (.cells #[.int .i64 b.kind, .string ⟨b.name.toArray⟩, .int .i64 b.num, .slice bka b.kids.length bkc, .slice bna b.names.length bnc, .int .i64 b.at_] RT)).drew := Blk.made (T := RT) (cs := #[.int .i64 b.kind, .string ⟨b.name.toArray⟩, .int .i64 b.num, .slice bka b.kids.length bkc, .slice bna b.names.length bnc, .int .i64 b.at_]) w6
    have hbd := (alloc_bel w6 (.cells #[.int .i64 b.kind, .string ⟨b.name.toArray⟩, .int .i64 b.num, .slice bka b.kids.length bkc, .slice bna b.names.length bnc, .int .i64 b.at_] RT)).drew
    generalize hwv : World.drew _ = w7
    rw [hwv] at hmk hbd
    obtain ⟨kA, hkA⟩ : ∃ k, w6.heap.size = k := ⟨_, rfl⟩
    have hleA : w6.heap.size ≤ kA := Nat.le_of_eq hkA
    have hmk : Blk RT kA #[.int .i64 b.kind, .string ⟨b.name.toArray⟩, .int .i64 b.num, .slice bka b.kids.length bkc, .slice bna b.names.length bnc, .int .i64 b.at_] w7 := by rw [← hkA]; exact hmk
    rw [hkA]
    have hltA := hmk.lt
    have HKA := Lib.hid hmk
    have HB7 := Lib.hid hbd
    clear hmk hbd hwv hkA
    refine hK.out _ _ (hS7 _ HB7.out) (fun hH1 => ?_)
    clear hK K
    try simp only [Act.put, Hd.sa, Hd.sz, Hd.ss]
    refine Hd.take 5 6 (oi := ?_) (v := ?_) ?_ (by kernel_rfl) (fun _ _ _ h => h) hH1 ?_ ?_ ?_
    rotate_left 2
    · simp only [Hd.ga, Hd.gs, Hd.gz]
      exact rfl
    · rfl
    · intro w hSw
      (try dsimp only at hSw)
      go_simp
      try with_reducible rfl
    try simp only [Act.put, Hd.sa, Hd.sz, Hd.ss]
    refine Hd.one 6 6 (o := ?_) ?_ (by kernel_rfl) (fun K hK => ?_)
    rotate_left 1
    · simp only [Hd.ga, Hd.gs, Hd.gz]
      exact rfl
    go_simp
    have hmk := World.ownsRow_lit (base := w6.heap.size) (e := RT) (size := 6) w7 #[.int .i64 7, .string ⟨#[102, 111, 111]⟩, .int .i64 0, .slice (some ⟨kA, 0, none⟩) 1 1, .slice none 0 0, .int .i64 0] 1 HB7.out.size (by unfold maxLen; omega) rfl
    have hbd := alloc_bel w7 (.cells #[.int .i64 7, .string ⟨#[102, 111, 111]⟩, .int .i64 0, .slice (some ⟨kA, 0, none⟩) 1 1, .slice none 0 0, .int .i64 0] RT)
    generalize hwv : World.alloc _ _ = w8
    rw [hwv] at hmk hbd
    obtain ⟨kB, hkB⟩ : ∃ k, w7.heap.size = k := ⟨_, rfl⟩
    have hleB : w7.heap.size ≤ kB := Nat.le_of_eq hkB
    rw [hkB] at hmk ⊢
    have HB8 := Lib.hid (HB7.out.trans (hbd.mono HB7.out.size))
    have HKA8 := Lib.hid (HKA.out.below hbd HKA.out.lt)
    have HOWNB := Lib.hid hmk
    have hltB : kB < w8.heap.size := (hmk.lt kB rfl).2
    clear hmk hbd hwv hkB
    refine hK.out _ _ (hS7 _ HB8.out) (fun hH2 => ?_)
    clear hK K
    try simp only [Act.put, Hd.sa, Hd.sz, Hd.ss]
    refine Hd.one 10 10 (o := ?_) ?_ (by kernel_rfl) (fun K hK => ?_)
    rotate_left 1
    · simp only [Hd.ga, Hd.gs, Hd.gz]
      exact rfl
    refine step_own rfl (.tmp 39) (.tmp 42) 23 rfl w6.heap.size RT i0 (.agg #[.int .i64 0, .string ⟨#[]⟩, .int .i64 0, .slice none 0 0, .slice none 0 0, .int .i64 0]) 6 88 tsl hi0 hz0 hz1 hz2 rfl (by decide) _ 1 _ (by simp [Act.eval]) HOWNB.out ⟨gb, off, none⟩ 0 0 (flatN rest) (by simp [Act.eval]) (by rw [flatN_len, HRN.out]) (fun j u hj => by rw [List.eq_nil_of_length_eq_zero (show (flatN rest).length = 0 by rw [flatN_len, HRN.out])] at hj; simp at hj) HF1.out (by unfold maxLen; omega) (by omega) (by have := HB8.out.size; omega) ?_
    intro v9 w9 hown9 hg9 hat9
    have hb9 := HB8.out.grown hg9 HB8.out.size (fun k hk => by have hk : some kB = some k := hk; cases hk; have := HB7.out.size; omega)
    have hown9b : (some kB = v9.ownBlock) ∨ v9.ownBlock = some w8.heap.size := by
     rcases hat9 with h | h
     · exact .inl h.symm
     · exact .inr h
    have HT9 : Hid (OwnT RT w6.heap.size (fun x => x ≠ k5 ∧ x < kB) w9 v9 (wrap b :: rest.map (·.1))) := Lib.hid (by
     have hkp : Kp (fun x => x ≠ k5 ∧ x < kB) w8 w9 := ⟨hg9.size, fun x hx hl => hg9.block x hl (fun e => by have e : some x = some kB := e; cases e; omega)⟩
     have hex : ∀ x, (x ≠ k5 ∧ x < kB) → x < w9.heap.size → ((x ≠ k5 ∧ x < kB) ∧ v9.ownBlock ≠ some x) := fun x hx _ => ⟨hx, fun e => by
      rcases hown9b with h | h
      · rw [e] at h; cases h; omega
      · rw [e] at h; cases h; omega⟩
     refine ⟨(wrap b, .slice (some ⟨kA, 0, none⟩) 1 1, .slice none 0 0) :: rest, rfl, ?_, fun y hy => ?_⟩
     · have e : flatN ((wrap b, .slice (some ⟨kA, 0, none⟩) 1 1, .slice none 0 0) :: rest) = #[.int .i64 7, .string ⟨#[102, 111, 111]⟩, .int .i64 0, .slice (some ⟨kA, 0, none⟩) 1 1, .slice none 0 0, .int .i64 0].toList ++ flatN rest := rfl
       rw [e, List.length_cons, Nat.add_comm, HRN.out]
       exact hown9
     · rcases List.mem_cons.1 hy with rfl | hy
       · refine ⟨?_, rd_nil _ _⟩
         have ht : Tree (fun x => x ≠ k5 ∧ x < kB) w8 (.slice (some ⟨kA, 0, none⟩) 1 1) [b] := tree_lit [(b, .slice bka b.kids.length bkc, .slice bna b.names.length bnc)] HKA8.out ⟨by omega, by omega⟩ (by unfold maxLen; simp)
          (fun z hz => by obtain rfl := List.mem_singleton.1 hz; exact (HSUB.out w8 HB8.out _ (List.mem_cons_self ..)).1.mono (fun x hx _ => ⟨by omega, by omega⟩))
          (fun z hz => by obtain rfl := List.mem_singleton.1 hz; exact (HSUB.out w8 HB8.out _ (List.mem_cons_self ..)).2.mono (fun x hx _ => ⟨by omega, by omega⟩))
         exact (ht.kp hkp).mono hex
       · obtain ⟨t1, t2⟩ := HSUB.out w8 HB8.out y (List.mem_cons_of_mem _ hy)
         exact ⟨((t1.mono (fun x hx _ => ⟨by omega, by omega⟩)).kp hkp).mono hex, ((t2.mono (fun x hx _ => ⟨by omega, by omega⟩)).kp hkp).mono hex⟩)
    have hvf : ∃ na nc, v9 = .slice na 1 nc := by
     obtain ⟨fo, fc, h, -⟩ := own_slice hown9
     exact ⟨fo, fc, by rw [h]⟩
    obtain ⟨na, nc, rfl⟩ := hvf
    have HB9 := Lib.hid hb9
    have hne5 : (Value.slice na 1 nc).ownBlock ≠ some k5 := fun e => by
     rcases hown9b with h | h
     · rw [e] at h; cases h; omega
     · rw [e] at h; cases h; have := HB8.out.size; omega
    have HN5 := Lib.hid hne5
    have hk59 := HK5.out.below hb9 hk5l
    have HK59 := Lib.hid hk59
    clear hown9 hg9 hat9 hb9 hown9b hne5 hk59
    refine hK.out _ _ (hS7 _ HB9.out) (fun hH3 => ?_)
    clear hK K
    try simp only [Act.put, Hd.sa, Hd.sz, Hd.ss]
    refine Hd.take 11 12 (oi := ?_) (v := ?_) ?_ (by kernel_rfl) (fun _ _ _ h => h) hH3 ?_ ?_ ?_
    rotate_left 2
    · simp only [Hd.ga, Hd.gs, Hd.gz]
      exact rfl
    · rfl
    · intro w hSw
      (try dsimp only at hSw)
      go_simp
      try with_reducible rfl
    try simp only [Act.put, Hd.sa, Hd.sz, Hd.ss]
    have f4 := HK59.out.c 4 _ rfl
    have ff := HK59.out.fz
    refine Hd.last 12 (o := ?_) ?_ (by kernel_rfl) (by kernel_rfl) (by kernel_rfl) (fun K hK => ?_)
    rotate_left 1
    · simp only [Hd.ga, Hd.gs, Hd.gz]
      exact rfl
    go_simp
    generalize hwv : World.setCell _ _ _ = w10
    have htwo : Two k5 k5 w9 w10 := by rw [← hwv]; exact (Two.refl k5 k5 w9).km 4 _
    have HK510 : Hid (Blk 25 k5 #[.string ⟨M.name.toArray⟩, .slice pa pl pc, .slice ta tl tc, .int .i64 M.prim, .slice na 1 nc, .int .i64 M.at_] w10) := Lib.hid (by rw [← hwv]; exact HK59.out.set_ 4 _ _ rfl)
    have HK10 : Hid (Blk 25 w.heap.size #[.string ⟨M.name.toArray⟩, .slice pa pl pc, .slice ta tl tc, .int .i64 M.prim, .slice (some ⟨gb, off, none⟩) 1 1, .int .i64 M.at_] w10) := Lib.hid ((htwo.block _ (by omega) (by omega)).trans (HK6.out.below HB9.out HK6.out.lt))
    have HM10 : Hid (MtAt (fun _ => True) w10 M (.slice pa pl pc) (.slice ta tl tc) (.slice (some ⟨gb, off, none⟩) 1 1)) := Lib.hid (((HM6.out.bel HB9.out).two htwo (fun x hx => by omega)).mono (fun _ _ _ => trivial))
    have HT10 : Hid (Tree (fun _ => True) w10 (.slice na 1 nc) (wrap b :: rest.map (·.1))) := Lib.hid ((HT9.out.tree.kp (w' := w10) ⟨Nat.le_of_eq htwo.size.symm, fun x hx _ => htwo.block x (fun e => by
     subst e
     rcases hx with hx | hx
     · exact hx.1 rfl
     · exact HN5.out hx) (fun e => by
     subst e
     rcases hx with hx | hx
     · exact hx.1 rfl
     · exact HN5.out hx)⟩).mono (fun _ _ _ => trivial))
    have HBX : Hid (Below w.heap.size w w10) := Lib.hid (htwo.bel (HB06.out.trans (HB9.out.mono HB06.out.size)) (by omega))
    clear hwv htwo f4 ff
    refine hK.out _ _ ?_
    clear hK K
    try simp only [Act.put, Hd.sa, Hd.sz, Hd.ss]
    simp only [NoPanic]
    go_wp2_with fail
    go_meet
    exact ⟨na, nc, HK510.out, HK10.out, HM10.out, HT10.out, HBX.out⟩
  · skip
    refine wp_region_noPanic ?_
    refine Hd.start (fun v => v.cell? ⟨w.heap.size, 4, none⟩ = some (.slice (some ⟨gb, off, none⟩) bl bc) ∧ (v.cell? ⟨gb, off, none⟩ = some (.int .i64 b.kind) ∧ v.cell? ⟨gb, off + 1, none⟩ = some (.string ⟨b.name.toArray⟩) ∧ v.cell? ⟨gb, off + 2, none⟩ = some (.int .i64 b.num) ∧ v.cell? ⟨gb, off + 3, none⟩ = some (.slice bka b.kids.length bkc) ∧ v.cell? ⟨gb, off + 4, none⟩ = some (.slice bna b.names.length bnc) ∧ v.cell? ⟨gb, off + 5, none⟩ = some (.int .i64 b.at_))) (by kernel_rfl) (hS7 _ (Below.refl _ w6).drew) (fun hH0 => ?_)
    refine Hd.take 0 1 (oi := ?_) (v := ?_) ?_ (by kernel_rfl) (fun _ _ _ h => h) hH0 ?_ ?_ ?_
    rotate_left 2
    · simp only [Hd.ga, Hd.gz]
      exact rfl
    · rfl
    · intro w hSw
      (try dsimp only at hSw)
      go_simp
      try with_reducible rfl
    try simp only [Act.put, Hd.sa, Hd.sz, Hd.ss]
    refine Hd.take 1 2 (oi := ?_) (v := ?_) ?_ (by kernel_rfl) (fun _ _ _ h => h) hH0 ?_ ?_ ?_
    rotate_left 2
    · simp only [Hd.ga, Hd.gs, Hd.gz]
      exact rfl
    · rfl
    · intro w hSw
      (try dsimp only at hSw)
      go_simp
      try with_reducible rfl
    try simp only [Act.put, Hd.sa, Hd.sz, Hd.ss]
    refine Hd.take 2 3 (oi := ?_) (v := ?_) ?_ (by kernel_rfl) (fun _ _ _ h => h) hH0 ?_ ?_ ?_
    rotate_left 2
    · simp only [Hd.ga, Hd.gs, Hd.gz]
      exact rfl
    · rfl
    · intro w hSw
      (try dsimp only at hSw)
      go_simp
      try with_reducible rfl
    try simp only [Act.put, Hd.sa, Hd.sz, Hd.ss]
    refine Hd.take 3 4 (oi := ?_) (v := ?_) ?_ (by kernel_rfl) (fun _ _ _ h => h) hH0 ?_ ?_ ?_
    rotate_left 2
    · simp only [Hd.ga, Hd.gs, Hd.gz]
      exact rfl
    · rfl
    · intro w hSw
      (try dsimp only at hSw)
      go_simp
      try with_reducible rfl
    try simp only [Act.put, Hd.sa, Hd.sz, Hd.ss]
    refine Hd.take 7 8 (oi := ?_) (v := ?_) ?_ (by kernel_rfl) (fun _ _ _ h => h) hH0 ?_ ?_ ?_
    rotate_left 2
    · simp only [Hd.ga, Hd.gs, Hd.gz]
      exact rfl
    · rfl
    · intro w hSw
      (try dsimp only at hSw)
      go_simp
      try with_reducible rfl
    try simp only [Act.put, Hd.sa, Hd.sz, Hd.ss]
    refine Hd.take 8 9 (oi := ?_) (v := ?_) ?_ (by kernel_rfl) (fun _ _ _ h => h) hH0 ?_ ?_ ?_
    rotate_left 2
    · simp only [Hd.ga, Hd.gs, Hd.gz]
      exact rfl
    · rfl
    · intro w hSw
      (try dsimp only at hSw)
      go_simp
      try with_reducible rfl
    try simp only [Act.put, Hd.sa, Hd.sz, Hd.ss]
    refine Hd.take 9 10 (oi := ?_) (v := ?_) ?_ (by kernel_rfl) (fun _ _ _ h => h) hH0 ?_ ?_ ?_
    rotate_left 2
    · simp only [Hd.ga, Hd.gs, Hd.gz]
      exact rfl
    · rfl
    · intro w hSw
      (try dsimp only at hSw)
      go_simp
      try with_reducible rfl
    try simp only [Act.put, Hd.sa, Hd.sz, Hd.ss]
    refine Hd.one 4 4 (o := ?_) ?_ (by kernel_rfl) (fun K hK => ?_)
    rotate_left 1
    · simp only [Hd.ga, Hd.gs, Hd.gz]
      exact rfl
    go_simp
    have hmk : Blk RT w6.heap.size #[.int .i64 b.kind, .string ⟨b.name.toArray⟩, .int .i64 b.num, .slice bka b.kids.length bkc, .slice bna b.names.length bnc, .int .i64 b.at_] (w6.alloc (.cells #[.int .i64 b.kind, .string ⟨b.name.toArray⟩, .int .i64 b.num, .slice bka b.kids.length bkc, .slice bna b.names.length bnc, .int .i64 b.at_] RT)).drew := Blk.made (T := RT) (cs := #[.int .i64 b.kind, .string ⟨b.name.toArray⟩, .int .i64 b.num, .slice bka b.kids.length bkc, .slice bna b.names.length bnc, .int .i64 b.at_]) w6
    have hbd := (alloc_bel w6 (.cells #[.int .i64 b.kind, .string ⟨b.name.toArray⟩, .int .i64 b.num, .slice bka b.kids.length bkc, .slice bna b.names.length bnc, .int .i64 b.at_] RT)).drew
    generalize hwv : World.drew _ = w7
    rw [hwv] at hmk hbd
    obtain ⟨kA, hkA⟩ : ∃ k, w6.heap.size = k := ⟨_, rfl⟩
    have hleA : w6.heap.size ≤ kA := Nat.le_of_eq hkA
    have hmk : Blk RT kA #[.int .i64 b.kind, .string ⟨b.name.toArray⟩, .int .i64 b.num, .slice bka b.kids.length bkc, .slice bna b.names.length bnc, .int .i64 b.at_] w7 := by rw [← hkA]; exact hmk
    rw [hkA]
    have hltA := hmk.lt
    have HKA := Lib.hid hmk
    have HB7 := Lib.hid hbd
    clear hmk hbd hwv hkA
    refine hK.out _ _ (hS7 _ HB7.out) (fun hH1 => ?_)
    clear hK K
    try simp only [Act.put, Hd.sa, Hd.sz, Hd.ss]
    refine Hd.take 5 6 (oi := ?_) (v := ?_) ?_ (by kernel_rfl) (fun _ _ _ h => h) hH1 ?_ ?_ ?_
    rotate_left 2
    · simp only [Hd.ga, Hd.gs, Hd.gz]
      exact rfl
    · rfl
    · intro w hSw
      (try dsimp only at hSw)
      go_simp
      try with_reducible rfl
    try simp only [Act.put, Hd.sa, Hd.sz, Hd.ss]
    refine Hd.one 6 6 (o := ?_) ?_ (by kernel_rfl) (fun K hK => ?_)
    rotate_left 1
    · simp only [Hd.ga, Hd.gs, Hd.gz]
      exact rfl
    go_simp
    have hmk := World.ownsRow_lit (base := w6.heap.size) (e := RT) (size := 6) w7 #[.int .i64 7, .string ⟨#[102, 111, 111]⟩, .int .i64 0, .slice (some ⟨kA, 0, none⟩) 1 1, .slice none 0 0, .int .i64 0] 1 HB7.out.size (by unfold maxLen; omega) rfl
    have hbd := alloc_bel w7 (.cells #[.int .i64 7, .string ⟨#[102, 111, 111]⟩, .int .i64 0, .slice (some ⟨kA, 0, none⟩) 1 1, .slice none 0 0, .int .i64 0] RT)
    generalize hwv : World.alloc _ _ = w8
    rw [hwv] at hmk hbd
    obtain ⟨kB, hkB⟩ : ∃ k, w7.heap.size = k := ⟨_, rfl⟩
    have hleB : w7.heap.size ≤ kB := Nat.le_of_eq hkB
    rw [hkB] at hmk ⊢
    have HB8 := Lib.hid (HB7.out.trans (hbd.mono HB7.out.size))
    have HKA8 := Lib.hid (HKA.out.below hbd HKA.out.lt)
    have HOWNB := Lib.hid hmk
    have hltB : kB < w8.heap.size := (hmk.lt kB rfl).2
    clear hmk hbd hwv hkB
    refine hK.out _ _ (hS7 _ HB8.out) (fun hH2 => ?_)
    clear hK K
    try simp only [Act.put, Hd.sa, Hd.sz, Hd.ss]
    refine Hd.one 10 10 (o := ?_) ?_ (by kernel_rfl) (fun K hK => ?_)
    rotate_left 1
    · simp only [Hd.ga, Hd.gs, Hd.gz]
      exact rfl
    refine step_own rfl (.tmp 39) (.tmp 42) 23 rfl w6.heap.size RT i0 (.agg #[.int .i64 0, .string ⟨#[]⟩, .int .i64 0, .slice none 0 0, .slice none 0 0, .int .i64 0]) 6 88 tsl hi0 hz0 hz1 hz2 rfl (by decide) _ 1 _ (by simp [Act.eval]) HOWNB.out ⟨gb, off + 6, none⟩ (bl - 1) (bc - 1) (flatN rest) (by simp [Act.eval]) (by rw [flatN_len, HRN.out]) (fun j u hj => by rw [add_flat']; exact HFC.out w8 HB8.out j u hj) HF1.out (by unfold maxLen; omega) (by omega) (by have := HB8.out.size; omega) ?_
    intro v9 w9 hown9 hg9 hat9
    have hb9 := HB8.out.grown hg9 HB8.out.size (fun k hk => by have hk : some kB = some k := hk; cases hk; have := HB7.out.size; omega)
    have hown9b : (some kB = v9.ownBlock) ∨ v9.ownBlock = some w8.heap.size := by
     rcases hat9 with h | h
     · exact .inl h.symm
     · exact .inr h
    have HT9 : Hid (OwnT RT w6.heap.size (fun x => x ≠ k5 ∧ x < kB) w9 v9 (wrap b :: rest.map (·.1))) := Lib.hid (by
     have hkp : Kp (fun x => x ≠ k5 ∧ x < kB) w8 w9 := ⟨hg9.size, fun x hx hl => hg9.block x hl (fun e => by have e : some x = some kB := e; cases e; omega)⟩
     have hex : ∀ x, (x ≠ k5 ∧ x < kB) → x < w9.heap.size → ((x ≠ k5 ∧ x < kB) ∧ v9.ownBlock ≠ some x) := fun x hx _ => ⟨hx, fun e => by
      rcases hown9b with h | h
      · rw [e] at h; cases h; omega
      · rw [e] at h; cases h; omega⟩
     refine ⟨(wrap b, .slice (some ⟨kA, 0, none⟩) 1 1, .slice none 0 0) :: rest, rfl, ?_, fun y hy => ?_⟩
     · have e : flatN ((wrap b, .slice (some ⟨kA, 0, none⟩) 1 1, .slice none 0 0) :: rest) = #[.int .i64 7, .string ⟨#[102, 111, 111]⟩, .int .i64 0, .slice (some ⟨kA, 0, none⟩) 1 1, .slice none 0 0, .int .i64 0].toList ++ flatN rest := rfl
       rw [e, List.length_cons, Nat.add_comm, HRN.out]
       exact hown9
     · rcases List.mem_cons.1 hy with rfl | hy
       · refine ⟨?_, rd_nil _ _⟩
         have ht : Tree (fun x => x ≠ k5 ∧ x < kB) w8 (.slice (some ⟨kA, 0, none⟩) 1 1) [b] := tree_lit [(b, .slice bka b.kids.length bkc, .slice bna b.names.length bnc)] HKA8.out ⟨by omega, by omega⟩ (by unfold maxLen; simp)
          (fun z hz => by obtain rfl := List.mem_singleton.1 hz; exact (HSUB.out w8 HB8.out _ (List.mem_cons_self ..)).1.mono (fun x hx _ => ⟨by omega, by omega⟩))
          (fun z hz => by obtain rfl := List.mem_singleton.1 hz; exact (HSUB.out w8 HB8.out _ (List.mem_cons_self ..)).2.mono (fun x hx _ => ⟨by omega, by omega⟩))
         exact (ht.kp hkp).mono hex
       · obtain ⟨t1, t2⟩ := HSUB.out w8 HB8.out y (List.mem_cons_of_mem _ hy)
         exact ⟨((t1.mono (fun x hx _ => ⟨by omega, by omega⟩)).kp hkp).mono hex, ((t2.mono (fun x hx _ => ⟨by omega, by omega⟩)).kp hkp).mono hex⟩)
    have hvf : ∃ na nc, v9 = .slice na bl nc := by
     obtain ⟨fo, fc, h, -⟩ := own_slice hown9
     exact ⟨fo, fc, by rw [h]; congr 1; omega⟩
    obtain ⟨na, nc, rfl⟩ := hvf
    have HB9 := Lib.hid hb9
    have hne5 : (Value.slice na bl nc).ownBlock ≠ some k5 := fun e => by
     rcases hown9b with h | h
     · rw [e] at h; cases h; omega
     · rw [e] at h; cases h; have := HB8.out.size; omega
    have HN5 := Lib.hid hne5
    have hk59 := HK5.out.below hb9 hk5l
    have HK59 := Lib.hid hk59
    clear hown9 hg9 hat9 hb9 hown9b hne5 hk59
    refine hK.out _ _ (hS7 _ HB9.out) (fun hH3 => ?_)
    clear hK K
    try simp only [Act.put, Hd.sa, Hd.sz, Hd.ss]
    refine Hd.take 11 12 (oi := ?_) (v := ?_) ?_ (by kernel_rfl) (fun _ _ _ h => h) hH3 ?_ ?_ ?_
    rotate_left 2
    · simp only [Hd.ga, Hd.gs, Hd.gz]
      exact rfl
    · rfl
    · intro w hSw
      (try dsimp only at hSw)
      go_simp
      try with_reducible rfl
    try simp only [Act.put, Hd.sa, Hd.sz, Hd.ss]
    have f4 := HK59.out.c 4 _ rfl
    have ff := HK59.out.fz
    refine Hd.last 12 (o := ?_) ?_ (by kernel_rfl) (by kernel_rfl) (by kernel_rfl) (fun K hK => ?_)
    rotate_left 1
    · simp only [Hd.ga, Hd.gs, Hd.gz]
      exact rfl
    go_simp
    generalize hwv : World.setCell _ _ _ = w10
    have htwo : Two k5 k5 w9 w10 := by rw [← hwv]; exact (Two.refl k5 k5 w9).km 4 _
    have HK510 : Hid (Blk 25 k5 #[.string ⟨M.name.toArray⟩, .slice pa pl pc, .slice ta tl tc, .int .i64 M.prim, .slice na bl nc, .int .i64 M.at_] w10) := Lib.hid (by rw [← hwv]; exact HK59.out.set_ 4 _ _ rfl)
    have HK10 : Hid (Blk 25 w.heap.size #[.string ⟨M.name.toArray⟩, .slice pa pl pc, .slice ta tl tc, .int .i64 M.prim, .slice (some ⟨gb, off, none⟩) bl bc, .int .i64 M.at_] w10) := Lib.hid ((htwo.block _ (by omega) (by omega)).trans (HK6.out.below HB9.out HK6.out.lt))
    have HM10 : Hid (MtAt (fun _ => True) w10 M (.slice pa pl pc) (.slice ta tl tc) (.slice (some ⟨gb, off, none⟩) bl bc)) := Lib.hid (((HM6.out.bel HB9.out).two htwo (fun x hx => by omega)).mono (fun _ _ _ => trivial))
    have HT10 : Hid (Tree (fun _ => True) w10 (.slice na bl nc) (wrap b :: rest.map (·.1))) := Lib.hid ((HT9.out.tree.kp (w' := w10) ⟨Nat.le_of_eq htwo.size.symm, fun x hx _ => htwo.block x (fun e => by
     subst e
     rcases hx with hx | hx
     · exact hx.1 rfl
     · exact HN5.out hx) (fun e => by
     subst e
     rcases hx with hx | hx
     · exact hx.1 rfl
     · exact HN5.out hx)⟩).mono (fun _ _ _ => trivial))
    have HBX : Hid (Below w.heap.size w w10) := Lib.hid (htwo.bel (HB06.out.trans (HB9.out.mono HB06.out.size)) (by omega))
    clear hwv htwo f4 ff
    refine hK.out _ _ ?_
    clear hK K
    try simp only [Act.put, Hd.sa, Hd.sz, Hd.ss]
    simp only [NoPanic]
    go_wp2_with fail
    go_meet
    exact ⟨na, nc, HK510.out, HK10.out, HM10.out, HT10.out, HBX.out⟩
 case rest =>
 obtain ⟨na, nc, hk5', hk2', hm', ht', hb'⟩ := hcut
 obtain ⟨M', hM'⟩ : ∃ M', M' = ({ M with body := wrap b :: rest.map (·.1) } : Mt) := ⟨_, rfl⟩
 have en : M'.name = M.name := by rw [hM']
 have ep : M'.params = M.params := by rw [hM']
 have et : M'.temps = M.temps := by rw [hM']
 have er : M'.prim = M.prim := by rw [hM']
 have ea : M'.at_ = M.at_ := by rw [hM']
 have eb : M'.body = wrap b :: rest.map (·.1) := by rw [hM']
 have hmn : MtAt (fun _ => True) wc M' (.slice pa pl pc) (.slice ta tl tc) (.slice na bl nc) := ⟨by rw [ep]; exact hm'.params, by rw [et]; exact hm'.temps, by rw [eb]; exact ht'⟩
 have hmild0 : Mild (b :: rest.map (·.1)) := by rw [← HBOD.out]; exact HMI.out
 have hc200 : cntL (b :: rest.map (·.1)) ≤ 200 := by rw [← HBOD.out]; exact HC200.out
 have hmild' : Mild M'.body := by rw [eb]; exact wrap_mild hmild0 hc200
 have hl1 : M'.body.length = bl := by rw [eb, List.length_cons, List.length_map, HRN.out]; omega
 have hl2 : M'.params.length = pl := by rw [ep]; exact HPL.out
 have hl3 : M'.temps.length = tl := by rw [et]; exact HTL.out
 have HOX : Hid (∀ v, Below wc.heap.size wc v → Calls Tryz.prog 9 #[.agg #[.string ⟨M.name.toArray⟩, .slice pa pl pc, .slice ta tl tc, .int .i64 M.prim, .slice (some ⟨gb, off, none⟩) bl bc, .int .i64 M.at_]] v (fun e v' => Below v.heap.size v v' ∧ ∃ xa xc ya yc za zc, e = .returned (.agg #[.string ⟨M.name.toArray⟩, .slice xa pl xc, .slice ya tl yc, .int .i64 M.prim, .slice za bl zc, .int .i64 M.at_]) ∧ MtAt (fun b => v.heap.size ≤ b ∧ b < v'.heap.size) v' M (.slice xa pl xc) (.slice ya tl yc) (.slice za bl zc))) := Lib.hid (fun v hv => by
  have := own_clean M HMI.out hpl15 htl15 _ _ _ v (hm'.bel hv)
  rw [HPL.out, HTL.out, HBL.out] at this
  exact this)
 have HOY : Hid (∀ v, Below wc.heap.size wc v → Calls Tryz.prog 9 #[.agg #[.string ⟨M.name.toArray⟩, .slice pa pl pc, .slice ta tl tc, .int .i64 M.prim, .slice na bl nc, .int .i64 M.at_]] v (fun e v' => Below v.heap.size v v' ∧ ∃ ua uc va vc qa qc, e = .returned (.agg #[.string ⟨M.name.toArray⟩, .slice ua pl uc, .slice va tl vc, .int .i64 M.prim, .slice qa bl qc, .int .i64 M.at_]) ∧ MtAt (fun b => v.heap.size ≤ b ∧ b < v'.heap.size) v' M' (.slice ua pl uc) (.slice va tl vc) (.slice qa bl qc))) := Lib.hid (fun v hv => by
  have := own_clean M' hmild' (by rw [ep]; exact hpl15) (by rw [et]; exact htl15) _ _ _ v (hmn.bel hv)
  rw [hl1, hl2, hl3] at this
  unfold mtV at this
  rw [en, er, ea] at this
  exact this)
 have hS : Hid (∀ v, Below wc.heap.size wc v → ((v.cell? ⟨w.heap.size, 0, none⟩ = some (.string ⟨M.name.toArray⟩) ∧ v.cell? ⟨w.heap.size, 1, none⟩ = some (.slice pa pl pc) ∧ v.cell? ⟨w.heap.size, 2, none⟩ = some (.slice ta tl tc) ∧ v.cell? ⟨w.heap.size, 3, none⟩ = some (.int .i64 M.prim) ∧ v.cell? ⟨w.heap.size, 4, none⟩ = some (.slice (some ⟨gb, off, none⟩) bl bc) ∧ v.cell? ⟨w.heap.size, 5, none⟩ = some (.int .i64 M.at_)) ∧ (v.cell? ⟨k5, 0, none⟩ = some (.string ⟨M.name.toArray⟩) ∧ v.cell? ⟨k5, 1, none⟩ = some (.slice pa pl pc) ∧ v.cell? ⟨k5, 2, none⟩ = some (.slice ta tl tc) ∧ v.cell? ⟨k5, 3, none⟩ = some (.int .i64 M.prim) ∧ v.cell? ⟨k5, 4, none⟩ = some (.slice na bl nc) ∧ v.cell? ⟨k5, 5, none⟩ = some (.int .i64 M.at_)))) := Lib.hid (fun v hv => by
  have h1 := hk2'.below hv hk2'.lt
  have h2 := hk5'.below hv hk5'.lt
  exact ⟨⟨h1.c 0 _ rfl, h1.c 1 _ rfl, h1.c 2 _ rfl, h1.c 3 _ rfl, h1.c 4 _ rfl, h1.c 5 _ rfl⟩, h2.c 0 _ rfl, h2.c 1 _ rfl, h2.c 2 _ rfl, h2.c 3 _ rfl, h2.c 4 _ rfl, h2.c 5 _ rfl⟩)
 obtain ⟨D, hD⟩ : ∃ d, depthL M.body = d := ⟨_, rfl⟩
 obtain ⟨d1, hd1⟩ : ∃ d, depthL [b] = d := ⟨_, rfl⟩
 obtain ⟨cn, hcn⟩ : ∃ d, cntL M.body = d := ⟨_, rfl⟩
 have hcn' : cntL M'.body = cn + 1 := by rw [eb, wrap_cnt, ← HBOD.out, hcn]
 have hD' : depthL M'.body = max D (d1 + 1) := by rw [eb, wrap_depth, ← HBOD.out, hD, hd1]
 have hck' : checkM M' = if max D (d1 + 1) ≤ 40 then 0 else 10 := by
  have := wrap_check M b (rest.map (·.1)) HBOD.out HCK.out H10.out
  rw [hM', this, wrap_depth, ← HBOD.out, hD, hd1]
 have hcn9 : cn ≤ 200 := by rw [← hcn]; exact HC200.out
 have hd9 : d1 ≤ 200 := by
  have h1 := depth_le_cnt [b]
  rw [hd1] at h1
  have h2 : cntL [b] ≤ cntL (b :: rest.map (·.1)) := by rw [cntL_cons, cntL_cons, cntL_nil]; omega
  omega
 have hD9 : D ≤ 200 := by have h1 := depth_le_cnt M.body; rw [hD, hcn] at h1; omega
 have hin' : ∀ x ∈ allL M'.body, InI x := fun x hx => (hmild'.fair x hx).2.2
 have HMX0 := Lib.hid (And.intro hD (And.intro hd1 hcn))
 have HMY0 := Lib.hid (And.intro hD' (And.intro hcn' hck'))
 have HIN := Lib.hid hin'
 have HEQ := Lib.hid (And.intro en (And.intro er ea))
 have HMC := Lib.hid hm'
 have HK2C := Lib.hid hk2'
 have HBC := Lib.hid hb'
 clear hk5' hk2' hm' ht' hb' hmn hmild0 hc200 hmild' hl1 hl2 hl3 hin' hM' en ep et er ea eb hD hd1 hcn hD' hcn' hck'
 go_upto_region 8 with fail
 go_cut [6, 7] (fun s6 s7 wx => ∃ KX KY xa xc ya yc za zc ua uc va vc qa qc, s6 = .pointer (some ⟨KX, 0, none⟩) ∧ s7 = .pointer (some ⟨KY, 0, none⟩) ∧ Blk 30 KX #[.string ⟨M.name.toArray⟩, .slice xa pl xc, .slice ya tl yc, .int .i64 M.prim, .slice za bl zc, .int .i64 M.at_] wx ∧ Blk 30 KY #[.string ⟨M.name.toArray⟩, .slice ua pl uc, .slice va tl vc, .int .i64 M.prim, .slice qa bl qc, .int .i64 M.at_] wx ∧
  MtAt (fun _ => True) wx M (.slice xa pl xc) (.slice ya tl yc) (.slice za bl zc) ∧ MtAt (fun _ => True) wx M' (.slice ua pl uc) (.slice va tl vc) (.slice qa bl qc) ∧ Below wc.heap.size wc wx)
 case first =>
  have HBW8 : Hid (Below wc.heap.size wc wc.drew) := Lib.hid (Below.refl _ wc).drew
  refine wp_region_noPanic ?_
  refine Hd.start (fun v => (v.cell? ⟨w.heap.size, 0, none⟩ = some (.string ⟨M.name.toArray⟩) ∧ v.cell? ⟨w.heap.size, 1, none⟩ = some (.slice pa pl pc) ∧ v.cell? ⟨w.heap.size, 2, none⟩ = some (.slice ta tl tc) ∧ v.cell? ⟨w.heap.size, 3, none⟩ = some (.int .i64 M.prim) ∧ v.cell? ⟨w.heap.size, 4, none⟩ = some (.slice (some ⟨gb, off, none⟩) bl bc) ∧ v.cell? ⟨w.heap.size, 5, none⟩ = some (.int .i64 M.at_)) ∧ (v.cell? ⟨k5, 0, none⟩ = some (.string ⟨M.name.toArray⟩) ∧ v.cell? ⟨k5, 1, none⟩ = some (.slice pa pl pc) ∧ v.cell? ⟨k5, 2, none⟩ = some (.slice ta tl tc) ∧ v.cell? ⟨k5, 3, none⟩ = some (.int .i64 M.prim) ∧ v.cell? ⟨k5, 4, none⟩ = some (.slice na bl nc) ∧ v.cell? ⟨k5, 5, none⟩ = some (.int .i64 M.at_))) (by kernel_rfl) (hS.out _ HBW8.out) (fun hH0 => ?_)
  generalize hw8 : wc.drew = w8
  rw [hw8] at HBW8 hH0
  clear hw8
  refine Hd.take 0 1 (oi := ?_) (v := ?_) ?_ (by kernel_rfl) (fun _ _ _ h => h) hH0 ?_ ?_ ?_
  rotate_left 2
  · simp only [Hd.ga, Hd.gz]
    exact rfl
  · rfl
  · intro w hSw
    (try dsimp only at hSw)
    go_simp
    try with_reducible rfl
  try simp only [Act.put, Hd.sa, Hd.sz, Hd.ss]
  refine Hd.take 2 3 (oi := ?_) (v := ?_) ?_ (by kernel_rfl) (fun _ _ _ h => h) hH0 ?_ ?_ ?_
  rotate_left 2
  · simp only [Hd.ga, Hd.gs, Hd.gz]
    exact rfl
  · rfl
  · intro w hSw
    (try dsimp only at hSw)
    go_simp
    try with_reducible rfl
  try simp only [Act.put, Hd.sa, Hd.sz, Hd.ss]
  refine Hd.three 1 4 5 (o := ?_) (p := ?_) (q := ?_) ?_ ?_ ?_ (by kernel_rfl) (fun K hK => ?_) (fun K hK => ?_) (fun K hK => ?_)
  rotate_left 3
  · simp only [Hd.ga, Hd.gs, Hd.gz]
    exact rfl
  · simp only [Hd.ga, Hd.gs, Hd.gz]
    exact rfl
  · simp only [Hd.ga, Hd.gs, Hd.gz]
    exact rfl
  · skip
    go_simp
    refine (HOX.out _ HBW8.out).mono ?_; rintro e w9 ⟨hbd, xa, xc, ya, yc, za, zc, rfl, hmx⟩
    have HMX9 := Lib.hid hmx
    have hs9 := hbd.size
    have HBW9 := Lib.hid (HBW8.out.trans (hbd.mono HBW8.out.size))
    clear hbd hmx
    go_wp2_with fail
    refine hK.out _ _ (hS.out _ HBW9.out) (fun hH1 => ?_)
    clear hK K
    try simp only [Act.put, Hd.sa, Hd.sz, Hd.ss]
    refine Hd.three 3 4 5 (o := ?_) (p := ?_) (q := ?_) ?_ ?_ ?_ (by kernel_rfl) (fun K hK => ?_) (fun K hK => ?_) (fun K hK => ?_)
    rotate_left 3
    · simp only [Hd.ga, Hd.gs, Hd.gz]
      exact rfl
    · simp only [Hd.ga, Hd.gs, Hd.gz]
      exact rfl
    · simp only [Hd.ga, Hd.gs, Hd.gz]
      exact rfl
    · skip
      go_simp
      refine (HOY.out _ HBW9.out).mono ?_; rintro e w10 ⟨hbd, ua, uc, va, vc, qa, qc, rfl, hmx⟩
      have HMY10 := Lib.hid hmx
      have hs10 := hbd.size
      have HMX10 := Lib.hid (HMX9.out.bel hbd)
      have HBW10 := Lib.hid (HBW9.out.trans (hbd.mono HBW9.out.size))
      clear hbd hmx
      go_wp2_with fail
      refine hK.out _ _ (hS.out _ HBW10.out) (fun hH2 => ?_)
      clear hK K
      try simp only [Act.put, Hd.sa, Hd.sz, Hd.ss]
      refine Hd.two 4 5 (o := ?_) (p := ?_) ?_ ?_ (by kernel_rfl) (fun K hK => ?_) (fun K hK => ?_)
      rotate_left 2
      · simp only [Hd.ga, Hd.gs, Hd.gz]
        exact rfl
      · simp only [Hd.ga, Hd.gs, Hd.gz]
        exact rfl
      · skip
        go_simp
        have hmk := Blk.made (T := 30) (cs := #[.string ⟨#[]⟩, .slice none 0 0, .slice none 0 0, .int .i64 0, .slice none 0 0, .int .i64 0]) w10
        have hbd := alloc_bel w10 (.cells #[.string ⟨#[]⟩, .slice none 0 0, .slice none 0 0, .int .i64 0, .slice none 0 0, .int .i64 0] 30)
        generalize hwv : World.alloc _ _ = w11
        rw [hwv] at hmk hbd
        obtain ⟨KX, hKX⟩ : ∃ k, w10.heap.size = k := ⟨_, rfl⟩
        have hle11 : w10.heap.size ≤ KX := Nat.le_of_eq hKX
        rw [hKX] at hmk ⊢
        have hlt11 := hmk.lt
        have HKX11 := Lib.hid hmk
        have hs11 := hbd.size
        have HMX11 := Lib.hid (HMX10.out.bel hbd)
        have HMY11 := Lib.hid (HMY10.out.bel hbd)
        have HBW11 := Lib.hid (HBW10.out.trans (hbd.mono HBW10.out.size))
        clear hbd hmk hwv hKX
        refine hK.out _ _ (hS.out _ HBW11.out) (fun hH3 => ?_)
        clear hK K
        try simp only [Act.put, Hd.sa, Hd.sz, Hd.ss]
        refine Hd.one 5 5 (o := ?_) ?_ (by kernel_rfl) (fun K hK => ?_)
        rotate_left 1
        · simp only [Hd.ga, Hd.gs, Hd.gz]
          exact rfl
        go_simp
        have hmk := Blk.made (T := 30) (cs := #[.string ⟨#[]⟩, .slice none 0 0, .slice none 0 0, .int .i64 0, .slice none 0 0, .int .i64 0]) w11
        have hbd := alloc_bel w11 (.cells #[.string ⟨#[]⟩, .slice none 0 0, .slice none 0 0, .int .i64 0, .slice none 0 0, .int .i64 0] 30)
        generalize hwv : World.alloc _ _ = w12
        rw [hwv] at hmk hbd
        obtain ⟨KY, hKY⟩ : ∃ k, w11.heap.size = k := ⟨_, rfl⟩
        have hle12 : w11.heap.size ≤ KY := Nat.le_of_eq hKY
        rw [hKY] at hmk ⊢
        have hlt12 := hmk.lt
        have HKY12 := Lib.hid hmk
        have hs12 := hbd.size
        have HMX12 := Lib.hid (HMX11.out.bel hbd)
        have HMY12 := Lib.hid (HMY11.out.bel hbd)
        have HKX12 := Lib.hid (HKX11.out.below hbd HKX11.out.lt)
        have HBW12 := Lib.hid (HBW11.out.trans (hbd.mono HBW11.out.size))
        clear hbd hmk hwv hKY
        refine hK.out _ _ (hS.out _ HBW12.out) (fun hH4 => ?_)
        clear hK K
        try simp only [Act.put, Hd.sa, Hd.sz, Hd.ss]
        have e0 := HKX12.out.c 0 _ rfl
        have e1 := HKX12.out.c 1 _ rfl
        have e2 := HKX12.out.c 2 _ rfl
        have e3 := HKX12.out.c 3 _ rfl
        have e4 := HKX12.out.c 4 _ rfl
        have e5 := HKX12.out.c 5 _ rfl
        have ef := HKX12.out.fz
        have el := HKX12.out.lt
        refine Hd.one 6 6 (o := ?_) ?_ (by kernel_rfl) (fun K hK => ?_)
        rotate_left 1
        · simp only [Hd.ga, Hd.gs, Hd.gz]
          exact rfl
        go_simp
        generalize hwv : World.setCell _ _ _ = w13
        have htwo := two_at hwv
        have HKX13 := Lib.hid (six_at hwv HKX12.out)
        have HKY13 := Lib.hid (htwo.blk HKY12.out (by omega))
        have HMX13 := Lib.hid (HMX12.out.two htwo (fun b hb => by omega))
        have HMY13 := Lib.hid (HMY12.out.two htwo (fun b hb => by omega))
        have HBW13 := Lib.hid (htwo.bel HBW12.out (by have := HBW8.out.size; omega))
        clear e0 e1 e2 e3 e4 e5 ef el hwv htwo
        refine hK.out _ _ (hS.out _ HBW13.out) (fun hH5 => ?_)
        clear hK K
        try simp only [Act.put, Hd.sa, Hd.sz, Hd.ss]
        have e0 := HKY13.out.c 0 _ rfl
        have e1 := HKY13.out.c 1 _ rfl
        have e2 := HKY13.out.c 2 _ rfl
        have e3 := HKY13.out.c 3 _ rfl
        have e4 := HKY13.out.c 4 _ rfl
        have e5 := HKY13.out.c 5 _ rfl
        have ef := HKY13.out.fz
        have el := HKY13.out.lt
        refine Hd.last 7 (o := ?_) ?_ (by kernel_rfl) (by kernel_rfl) (by kernel_rfl) (fun K hK => ?_)
        rotate_left 1
        · simp only [Hd.ga, Hd.gs, Hd.gz]
          exact rfl
        go_simp
        generalize hwv : World.setCell _ _ _ = w14
        have htwo := two_at hwv
        have HKX14 := Lib.hid (htwo.blk HKX13.out (by omega))
        have HKY14 := Lib.hid (six_at hwv HKY13.out)
        have HMX14 := Lib.hid ((HMX13.out.two htwo (fun b hb => by omega)).mono (S' := fun _ => True) (fun _ _ _ => trivial))
        have HMY14 := Lib.hid ((HMY13.out.two htwo (fun b hb => by omega)).mono (S' := fun _ => True) (fun _ _ _ => trivial))
        have HBW14 := Lib.hid (htwo.bel HBW13.out (by have := HBW8.out.size; omega))
        clear e0 e1 e2 e3 e4 e5 ef el hwv htwo
        refine hK.out _ _ ?_
        clear hK K
        try simp only [Act.put, Hd.sa, Hd.sz, Hd.ss]
        simp only [NoPanic]
        go_wp2_with fail
        go_meet
        exact ⟨KX, KY, xa, xc, ya, yc, za, zc, ua, uc, va, vc, qa, qc, rfl, rfl, HKX14.out, HKY14.out, HMX14.out, HMY14.out, HBW14.out⟩
      · skip
        go_simp
        have hmk := Blk.made (T := 30) (cs := #[.string ⟨#[]⟩, .slice none 0 0, .slice none 0 0, .int .i64 0, .slice none 0 0, .int .i64 0]) w10
        have hbd := alloc_bel w10 (.cells #[.string ⟨#[]⟩, .slice none 0 0, .slice none 0 0, .int .i64 0, .slice none 0 0, .int .i64 0] 30)
        generalize hwv : World.alloc _ _ = w11
        rw [hwv] at hmk hbd
        obtain ⟨KY, hKY⟩ : ∃ k, w10.heap.size = k := ⟨_, rfl⟩
        have hle11 : w10.heap.size ≤ KY := Nat.le_of_eq hKY
        rw [hKY] at hmk ⊢
        have hlt11 := hmk.lt
        have HKY11 := Lib.hid hmk
        have hs11 := hbd.size
        have HMX11 := Lib.hid (HMX10.out.bel hbd)
        have HMY11 := Lib.hid (HMY10.out.bel hbd)
        have HBW11 := Lib.hid (HBW10.out.trans (hbd.mono HBW10.out.size))
        clear hbd hmk hwv hKY
        refine hK.out _ _ (hS.out _ HBW11.out) (fun hH6 => ?_)
        clear hK K
        try simp only [Act.put, Hd.sa, Hd.sz, Hd.ss]
        refine Hd.one 4 4 (o := ?_) ?_ (by kernel_rfl) (fun K hK => ?_)
        rotate_left 1
        · simp only [Hd.ga, Hd.gs, Hd.gz]
          exact rfl
        go_simp
        have hmk := Blk.made (T := 30) (cs := #[.string ⟨#[]⟩, .slice none 0 0, .slice none 0 0, .int .i64 0, .slice none 0 0, .int .i64 0]) w11
        have hbd := alloc_bel w11 (.cells #[.string ⟨#[]⟩, .slice none 0 0, .slice none 0 0, .int .i64 0, .slice none 0 0, .int .i64 0] 30)
        generalize hwv : World.alloc _ _ = w12
        rw [hwv] at hmk hbd
        obtain ⟨KX, hKX⟩ : ∃ k, w11.heap.size = k := ⟨_, rfl⟩
        have hle12 : w11.heap.size ≤ KX := Nat.le_of_eq hKX
        rw [hKX] at hmk ⊢
        have hlt12 := hmk.lt
        have HKX12 := Lib.hid hmk
        have hs12 := hbd.size
        have HMX12 := Lib.hid (HMX11.out.bel hbd)
        have HMY12 := Lib.hid (HMY11.out.bel hbd)
        have HKY12 := Lib.hid (HKY11.out.below hbd HKY11.out.lt)
        have HBW12 := Lib.hid (HBW11.out.trans (hbd.mono HBW11.out.size))
        clear hbd hmk hwv hKX
        refine hK.out _ _ (hS.out _ HBW12.out) (fun hH7 => ?_)
        clear hK K
        try simp only [Act.put, Hd.sa, Hd.sz, Hd.ss]
        have e0 := HKX12.out.c 0 _ rfl
        have e1 := HKX12.out.c 1 _ rfl
        have e2 := HKX12.out.c 2 _ rfl
        have e3 := HKX12.out.c 3 _ rfl
        have e4 := HKX12.out.c 4 _ rfl
        have e5 := HKX12.out.c 5 _ rfl
        have ef := HKX12.out.fz
        have el := HKX12.out.lt
        refine Hd.one 6 6 (o := ?_) ?_ (by kernel_rfl) (fun K hK => ?_)
        rotate_left 1
        · simp only [Hd.ga, Hd.gs, Hd.gz]
          exact rfl
        go_simp
        generalize hwv : World.setCell _ _ _ = w13
        have htwo := two_at hwv
        have HKX13 := Lib.hid (six_at hwv HKX12.out)
        have HKY13 := Lib.hid (htwo.blk HKY12.out (by omega))
        have HMX13 := Lib.hid (HMX12.out.two htwo (fun b hb => by omega))
        have HMY13 := Lib.hid (HMY12.out.two htwo (fun b hb => by omega))
        have HBW13 := Lib.hid (htwo.bel HBW12.out (by have := HBW8.out.size; omega))
        clear e0 e1 e2 e3 e4 e5 ef el hwv htwo
        refine hK.out _ _ (hS.out _ HBW13.out) (fun hH8 => ?_)
        clear hK K
        try simp only [Act.put, Hd.sa, Hd.sz, Hd.ss]
        have e0 := HKY13.out.c 0 _ rfl
        have e1 := HKY13.out.c 1 _ rfl
        have e2 := HKY13.out.c 2 _ rfl
        have e3 := HKY13.out.c 3 _ rfl
        have e4 := HKY13.out.c 4 _ rfl
        have e5 := HKY13.out.c 5 _ rfl
        have ef := HKY13.out.fz
        have el := HKY13.out.lt
        refine Hd.last 7 (o := ?_) ?_ (by kernel_rfl) (by kernel_rfl) (by kernel_rfl) (fun K hK => ?_)
        rotate_left 1
        · simp only [Hd.ga, Hd.gs, Hd.gz]
          exact rfl
        go_simp
        generalize hwv : World.setCell _ _ _ = w14
        have htwo := two_at hwv
        have HKX14 := Lib.hid (htwo.blk HKX13.out (by omega))
        have HKY14 := Lib.hid (six_at hwv HKY13.out)
        have HMX14 := Lib.hid ((HMX13.out.two htwo (fun b hb => by omega)).mono (S' := fun _ => True) (fun _ _ _ => trivial))
        have HMY14 := Lib.hid ((HMY13.out.two htwo (fun b hb => by omega)).mono (S' := fun _ => True) (fun _ _ _ => trivial))
        have HBW14 := Lib.hid (htwo.bel HBW13.out (by have := HBW8.out.size; omega))
        clear e0 e1 e2 e3 e4 e5 ef el hwv htwo
        refine hK.out _ _ ?_
        clear hK K
        try simp only [Act.put, Hd.sa, Hd.sz, Hd.ss]
        simp only [NoPanic]
        go_wp2_with fail
        go_meet
        exact ⟨KX, KY, xa, xc, ya, yc, za, zc, ua, uc, va, vc, qa, qc, rfl, rfl, HKX14.out, HKY14.out, HMX14.out, HMY14.out, HBW14.out⟩
    · skip
      go_simp
      have hmk := Blk.made (T := 30) (cs := #[.string ⟨#[]⟩, .slice none 0 0, .slice none 0 0, .int .i64 0, .slice none 0 0, .int .i64 0]) w9
      have hbd := alloc_bel w9 (.cells #[.string ⟨#[]⟩, .slice none 0 0, .slice none 0 0, .int .i64 0, .slice none 0 0, .int .i64 0] 30)
      generalize hwv : World.alloc _ _ = w10
      rw [hwv] at hmk hbd
      obtain ⟨KX, hKX⟩ : ∃ k, w9.heap.size = k := ⟨_, rfl⟩
      have hle10 : w9.heap.size ≤ KX := Nat.le_of_eq hKX
      rw [hKX] at hmk ⊢
      have hlt10 := hmk.lt
      have HKX10 := Lib.hid hmk
      have hs10 := hbd.size
      have HMX10 := Lib.hid (HMX9.out.bel hbd)
      have HBW10 := Lib.hid (HBW9.out.trans (hbd.mono HBW9.out.size))
      clear hbd hmk hwv hKX
      refine hK.out _ _ (hS.out _ HBW10.out) (fun hH9 => ?_)
      clear hK K
      try simp only [Act.put, Hd.sa, Hd.sz, Hd.ss]
      refine Hd.two 3 5 (o := ?_) (p := ?_) ?_ ?_ (by kernel_rfl) (fun K hK => ?_) (fun K hK => ?_)
      rotate_left 2
      · simp only [Hd.ga, Hd.gs, Hd.gz]
        exact rfl
      · simp only [Hd.ga, Hd.gs, Hd.gz]
        exact rfl
      · skip
        go_simp
        refine (HOY.out _ HBW10.out).mono ?_; rintro e w11 ⟨hbd, ua, uc, va, vc, qa, qc, rfl, hmx⟩
        have HMY11 := Lib.hid hmx
        have hs11 := hbd.size
        have HMX11 := Lib.hid (HMX10.out.bel hbd)
        have HKX11 := Lib.hid (HKX10.out.below hbd HKX10.out.lt)
        have HBW11 := Lib.hid (HBW10.out.trans (hbd.mono HBW10.out.size))
        clear hbd hmx
        go_wp2_with fail
        refine hK.out _ _ (hS.out _ HBW11.out) (fun hH10 => ?_)
        clear hK K
        try simp only [Act.put, Hd.sa, Hd.sz, Hd.ss]
        refine Hd.one 5 5 (o := ?_) ?_ (by kernel_rfl) (fun K hK => ?_)
        rotate_left 1
        · simp only [Hd.ga, Hd.gs, Hd.gz]
          exact rfl
        go_simp
        have hmk := Blk.made (T := 30) (cs := #[.string ⟨#[]⟩, .slice none 0 0, .slice none 0 0, .int .i64 0, .slice none 0 0, .int .i64 0]) w11
        have hbd := alloc_bel w11 (.cells #[.string ⟨#[]⟩, .slice none 0 0, .slice none 0 0, .int .i64 0, .slice none 0 0, .int .i64 0] 30)
        generalize hwv : World.alloc _ _ = w12
        rw [hwv] at hmk hbd
        obtain ⟨KY, hKY⟩ : ∃ k, w11.heap.size = k := ⟨_, rfl⟩
        have hle12 : w11.heap.size ≤ KY := Nat.le_of_eq hKY
        rw [hKY] at hmk ⊢
        have hlt12 := hmk.lt
        have HKY12 := Lib.hid hmk
        have hs12 := hbd.size
        have HMX12 := Lib.hid (HMX11.out.bel hbd)
        have HMY12 := Lib.hid (HMY11.out.bel hbd)
        have HKX12 := Lib.hid (HKX11.out.below hbd HKX11.out.lt)
        have HBW12 := Lib.hid (HBW11.out.trans (hbd.mono HBW11.out.size))
        clear hbd hmk hwv hKY
        refine hK.out _ _ (hS.out _ HBW12.out) (fun hH11 => ?_)
        clear hK K
        try simp only [Act.put, Hd.sa, Hd.sz, Hd.ss]
        have e0 := HKX12.out.c 0 _ rfl
        have e1 := HKX12.out.c 1 _ rfl
        have e2 := HKX12.out.c 2 _ rfl
        have e3 := HKX12.out.c 3 _ rfl
        have e4 := HKX12.out.c 4 _ rfl
        have e5 := HKX12.out.c 5 _ rfl
        have ef := HKX12.out.fz
        have el := HKX12.out.lt
        refine Hd.one 6 6 (o := ?_) ?_ (by kernel_rfl) (fun K hK => ?_)
        rotate_left 1
        · simp only [Hd.ga, Hd.gs, Hd.gz]
          exact rfl
        go_simp
        generalize hwv : World.setCell _ _ _ = w13
        have htwo := two_at hwv
        have HKX13 := Lib.hid (six_at hwv HKX12.out)
        have HKY13 := Lib.hid (htwo.blk HKY12.out (by omega))
        have HMX13 := Lib.hid (HMX12.out.two htwo (fun b hb => by omega))
        have HMY13 := Lib.hid (HMY12.out.two htwo (fun b hb => by omega))
        have HBW13 := Lib.hid (htwo.bel HBW12.out (by have := HBW8.out.size; omega))
        clear e0 e1 e2 e3 e4 e5 ef el hwv htwo
        refine hK.out _ _ (hS.out _ HBW13.out) (fun hH12 => ?_)
        clear hK K
        try simp only [Act.put, Hd.sa, Hd.sz, Hd.ss]
        have e0 := HKY13.out.c 0 _ rfl
        have e1 := HKY13.out.c 1 _ rfl
        have e2 := HKY13.out.c 2 _ rfl
        have e3 := HKY13.out.c 3 _ rfl
        have e4 := HKY13.out.c 4 _ rfl
        have e5 := HKY13.out.c 5 _ rfl
        have ef := HKY13.out.fz
        have el := HKY13.out.lt
        refine Hd.last 7 (o := ?_) ?_ (by kernel_rfl) (by kernel_rfl) (by kernel_rfl) (fun K hK => ?_)
        rotate_left 1
        · simp only [Hd.ga, Hd.gs, Hd.gz]
          exact rfl
        go_simp
        generalize hwv : World.setCell _ _ _ = w14
        have htwo := two_at hwv
        have HKX14 := Lib.hid (htwo.blk HKX13.out (by omega))
        have HKY14 := Lib.hid (six_at hwv HKY13.out)
        have HMX14 := Lib.hid ((HMX13.out.two htwo (fun b hb => by omega)).mono (S' := fun _ => True) (fun _ _ _ => trivial))
        have HMY14 := Lib.hid ((HMY13.out.two htwo (fun b hb => by omega)).mono (S' := fun _ => True) (fun _ _ _ => trivial))
        have HBW14 := Lib.hid (htwo.bel HBW13.out (by have := HBW8.out.size; omega))
        clear e0 e1 e2 e3 e4 e5 ef el hwv htwo
        refine hK.out _ _ ?_
        clear hK K
        try simp only [Act.put, Hd.sa, Hd.sz, Hd.ss]
        simp only [NoPanic]
        go_wp2_with fail
        go_meet
        exact ⟨KX, KY, xa, xc, ya, yc, za, zc, ua, uc, va, vc, qa, qc, rfl, rfl, HKX14.out, HKY14.out, HMX14.out, HMY14.out, HBW14.out⟩
      · skip
        go_simp
        have hmk := Blk.made (T := 30) (cs := #[.string ⟨#[]⟩, .slice none 0 0, .slice none 0 0, .int .i64 0, .slice none 0 0, .int .i64 0]) w10
        have hbd := alloc_bel w10 (.cells #[.string ⟨#[]⟩, .slice none 0 0, .slice none 0 0, .int .i64 0, .slice none 0 0, .int .i64 0] 30)
        generalize hwv : World.alloc _ _ = w11
        rw [hwv] at hmk hbd
        obtain ⟨KY, hKY⟩ : ∃ k, w10.heap.size = k := ⟨_, rfl⟩
        have hle11 : w10.heap.size ≤ KY := Nat.le_of_eq hKY
        rw [hKY] at hmk ⊢
        have hlt11 := hmk.lt
        have HKY11 := Lib.hid hmk
        have hs11 := hbd.size
        have HMX11 := Lib.hid (HMX10.out.bel hbd)
        have HKX11 := Lib.hid (HKX10.out.below hbd HKX10.out.lt)
        have HBW11 := Lib.hid (HBW10.out.trans (hbd.mono HBW10.out.size))
        clear hbd hmk hwv hKY
        refine hK.out _ _ (hS.out _ HBW11.out) (fun hH13 => ?_)
        clear hK K
        try simp only [Act.put, Hd.sa, Hd.sz, Hd.ss]
        refine Hd.one 3 3 (o := ?_) ?_ (by kernel_rfl) (fun K hK => ?_)
        rotate_left 1
        · simp only [Hd.ga, Hd.gs, Hd.gz]
          exact rfl
        go_simp
        refine (HOY.out _ HBW11.out).mono ?_; rintro e w12 ⟨hbd, ua, uc, va, vc, qa, qc, rfl, hmx⟩
        have HMY12 := Lib.hid hmx
        have hs12 := hbd.size
        have HMX12 := Lib.hid (HMX11.out.bel hbd)
        have HKX12 := Lib.hid (HKX11.out.below hbd HKX11.out.lt)
        have HKY12 := Lib.hid (HKY11.out.below hbd HKY11.out.lt)
        have HBW12 := Lib.hid (HBW11.out.trans (hbd.mono HBW11.out.size))
        clear hbd hmx
        go_wp2_with fail
        refine hK.out _ _ (hS.out _ HBW12.out) (fun hH14 => ?_)
        clear hK K
        try simp only [Act.put, Hd.sa, Hd.sz, Hd.ss]
        have e0 := HKX12.out.c 0 _ rfl
        have e1 := HKX12.out.c 1 _ rfl
        have e2 := HKX12.out.c 2 _ rfl
        have e3 := HKX12.out.c 3 _ rfl
        have e4 := HKX12.out.c 4 _ rfl
        have e5 := HKX12.out.c 5 _ rfl
        have ef := HKX12.out.fz
        have el := HKX12.out.lt
        refine Hd.one 6 6 (o := ?_) ?_ (by kernel_rfl) (fun K hK => ?_)
        rotate_left 1
        · simp only [Hd.ga, Hd.gs, Hd.gz]
          exact rfl
        go_simp
        generalize hwv : World.setCell _ _ _ = w13
        have htwo := two_at hwv
        have HKX13 := Lib.hid (six_at hwv HKX12.out)
        have HKY13 := Lib.hid (htwo.blk HKY12.out (by omega))
        have HMX13 := Lib.hid (HMX12.out.two htwo (fun b hb => by omega))
        have HMY13 := Lib.hid (HMY12.out.two htwo (fun b hb => by omega))
        have HBW13 := Lib.hid (htwo.bel HBW12.out (by have := HBW8.out.size; omega))
        clear e0 e1 e2 e3 e4 e5 ef el hwv htwo
        refine hK.out _ _ (hS.out _ HBW13.out) (fun hH15 => ?_)
        clear hK K
        try simp only [Act.put, Hd.sa, Hd.sz, Hd.ss]
        have e0 := HKY13.out.c 0 _ rfl
        have e1 := HKY13.out.c 1 _ rfl
        have e2 := HKY13.out.c 2 _ rfl
        have e3 := HKY13.out.c 3 _ rfl
        have e4 := HKY13.out.c 4 _ rfl
        have e5 := HKY13.out.c 5 _ rfl
        have ef := HKY13.out.fz
        have el := HKY13.out.lt
        refine Hd.last 7 (o := ?_) ?_ (by kernel_rfl) (by kernel_rfl) (by kernel_rfl) (fun K hK => ?_)
        rotate_left 1
        · simp only [Hd.ga, Hd.gs, Hd.gz]
          exact rfl
        go_simp
        generalize hwv : World.setCell _ _ _ = w14
        have htwo := two_at hwv
        have HKX14 := Lib.hid (htwo.blk HKX13.out (by omega))
        have HKY14 := Lib.hid (six_at hwv HKY13.out)
        have HMX14 := Lib.hid ((HMX13.out.two htwo (fun b hb => by omega)).mono (S' := fun _ => True) (fun _ _ _ => trivial))
        have HMY14 := Lib.hid ((HMY13.out.two htwo (fun b hb => by omega)).mono (S' := fun _ => True) (fun _ _ _ => trivial))
        have HBW14 := Lib.hid (htwo.bel HBW13.out (by have := HBW8.out.size; omega))
        clear e0 e1 e2 e3 e4 e5 ef el hwv htwo
        refine hK.out _ _ ?_
        clear hK K
        try simp only [Act.put, Hd.sa, Hd.sz, Hd.ss]
        simp only [NoPanic]
        go_wp2_with fail
        go_meet
        exact ⟨KX, KY, xa, xc, ya, yc, za, zc, ua, uc, va, vc, qa, qc, rfl, rfl, HKX14.out, HKY14.out, HMX14.out, HMY14.out, HBW14.out⟩
    · skip
      go_simp
      have hmk := Blk.made (T := 30) (cs := #[.string ⟨#[]⟩, .slice none 0 0, .slice none 0 0, .int .i64 0, .slice none 0 0, .int .i64 0]) w9
      have hbd := alloc_bel w9 (.cells #[.string ⟨#[]⟩, .slice none 0 0, .slice none 0 0, .int .i64 0, .slice none 0 0, .int .i64 0] 30)
      generalize hwv : World.alloc _ _ = w10
      rw [hwv] at hmk hbd
      obtain ⟨KY, hKY⟩ : ∃ k, w9.heap.size = k := ⟨_, rfl⟩
      have hle10 : w9.heap.size ≤ KY := Nat.le_of_eq hKY
      rw [hKY] at hmk ⊢
      have hlt10 := hmk.lt
      have HKY10 := Lib.hid hmk
      have hs10 := hbd.size
      have HMX10 := Lib.hid (HMX9.out.bel hbd)
      have HBW10 := Lib.hid (HBW9.out.trans (hbd.mono HBW9.out.size))
      clear hbd hmk hwv hKY
      refine hK.out _ _ (hS.out _ HBW10.out) (fun hH16 => ?_)
      clear hK K
      try simp only [Act.put, Hd.sa, Hd.sz, Hd.ss]
      refine Hd.two 3 4 (o := ?_) (p := ?_) ?_ ?_ (by kernel_rfl) (fun K hK => ?_) (fun K hK => ?_)
      rotate_left 2
      · simp only [Hd.ga, Hd.gs, Hd.gz]
        exact rfl
      · simp only [Hd.ga, Hd.gs, Hd.gz]
        exact rfl
      · skip
        go_simp
        refine (HOY.out _ HBW10.out).mono ?_; rintro e w11 ⟨hbd, ua, uc, va, vc, qa, qc, rfl, hmx⟩
        have HMY11 := Lib.hid hmx
        have hs11 := hbd.size
        have HMX11 := Lib.hid (HMX10.out.bel hbd)
        have HKY11 := Lib.hid (HKY10.out.below hbd HKY10.out.lt)
        have HBW11 := Lib.hid (HBW10.out.trans (hbd.mono HBW10.out.size))
        clear hbd hmx
        go_wp2_with fail
        refine hK.out _ _ (hS.out _ HBW11.out) (fun hH17 => ?_)
        clear hK K
        try simp only [Act.put, Hd.sa, Hd.sz, Hd.ss]
        refine Hd.one 4 4 (o := ?_) ?_ (by kernel_rfl) (fun K hK => ?_)
        rotate_left 1
        · simp only [Hd.ga, Hd.gs, Hd.gz]
          exact rfl
        go_simp
        have hmk := Blk.made (T := 30) (cs := #[.string ⟨#[]⟩, .slice none 0 0, .slice none 0 0, .int .i64 0, .slice none 0 0, .int .i64 0]) w11
        have hbd := alloc_bel w11 (.cells #[.string ⟨#[]⟩, .slice none 0 0, .slice none 0 0, .int .i64 0, .slice none 0 0, .int .i64 0] 30)
        generalize hwv : World.alloc _ _ = w12
        rw [hwv] at hmk hbd
        obtain ⟨KX, hKX⟩ : ∃ k, w11.heap.size = k := ⟨_, rfl⟩
        have hle12 : w11.heap.size ≤ KX := Nat.le_of_eq hKX
        rw [hKX] at hmk ⊢
        have hlt12 := hmk.lt
        have HKX12 := Lib.hid hmk
        have hs12 := hbd.size
        have HMX12 := Lib.hid (HMX11.out.bel hbd)
        have HMY12 := Lib.hid (HMY11.out.bel hbd)
        have HKY12 := Lib.hid (HKY11.out.below hbd HKY11.out.lt)
        have HBW12 := Lib.hid (HBW11.out.trans (hbd.mono HBW11.out.size))
        clear hbd hmk hwv hKX
        refine hK.out _ _ (hS.out _ HBW12.out) (fun hH18 => ?_)
        clear hK K
        try simp only [Act.put, Hd.sa, Hd.sz, Hd.ss]
        have e0 := HKX12.out.c 0 _ rfl
        have e1 := HKX12.out.c 1 _ rfl
        have e2 := HKX12.out.c 2 _ rfl
        have e3 := HKX12.out.c 3 _ rfl
        have e4 := HKX12.out.c 4 _ rfl
        have e5 := HKX12.out.c 5 _ rfl
        have ef := HKX12.out.fz
        have el := HKX12.out.lt
        refine Hd.one 6 6 (o := ?_) ?_ (by kernel_rfl) (fun K hK => ?_)
        rotate_left 1
        · simp only [Hd.ga, Hd.gs, Hd.gz]
          exact rfl
        go_simp
        generalize hwv : World.setCell _ _ _ = w13
        have htwo := two_at hwv
        have HKX13 := Lib.hid (six_at hwv HKX12.out)
        have HKY13 := Lib.hid (htwo.blk HKY12.out (by omega))
        have HMX13 := Lib.hid (HMX12.out.two htwo (fun b hb => by omega))
        have HMY13 := Lib.hid (HMY12.out.two htwo (fun b hb => by omega))
        have HBW13 := Lib.hid (htwo.bel HBW12.out (by have := HBW8.out.size; omega))
        clear e0 e1 e2 e3 e4 e5 ef el hwv htwo
        refine hK.out _ _ (hS.out _ HBW13.out) (fun hH19 => ?_)
        clear hK K
        try simp only [Act.put, Hd.sa, Hd.sz, Hd.ss]
        have e0 := HKY13.out.c 0 _ rfl
        have e1 := HKY13.out.c 1 _ rfl
        have e2 := HKY13.out.c 2 _ rfl
        have e3 := HKY13.out.c 3 _ rfl
        have e4 := HKY13.out.c 4 _ rfl
        have e5 := HKY13.out.c 5 _ rfl
        have ef := HKY13.out.fz
        have el := HKY13.out.lt
        refine Hd.last 7 (o := ?_) ?_ (by kernel_rfl) (by kernel_rfl) (by kernel_rfl) (fun K hK => ?_)
        rotate_left 1
        · simp only [Hd.ga, Hd.gs, Hd.gz]
          exact rfl
        go_simp
        generalize hwv : World.setCell _ _ _ = w14
        have htwo := two_at hwv
        have HKX14 := Lib.hid (htwo.blk HKX13.out (by omega))
        have HKY14 := Lib.hid (six_at hwv HKY13.out)
        have HMX14 := Lib.hid ((HMX13.out.two htwo (fun b hb => by omega)).mono (S' := fun _ => True) (fun _ _ _ => trivial))
        have HMY14 := Lib.hid ((HMY13.out.two htwo (fun b hb => by omega)).mono (S' := fun _ => True) (fun _ _ _ => trivial))
        have HBW14 := Lib.hid (htwo.bel HBW13.out (by have := HBW8.out.size; omega))
        clear e0 e1 e2 e3 e4 e5 ef el hwv htwo
        refine hK.out _ _ ?_
        clear hK K
        try simp only [Act.put, Hd.sa, Hd.sz, Hd.ss]
        simp only [NoPanic]
        go_wp2_with fail
        go_meet
        exact ⟨KX, KY, xa, xc, ya, yc, za, zc, ua, uc, va, vc, qa, qc, rfl, rfl, HKX14.out, HKY14.out, HMX14.out, HMY14.out, HBW14.out⟩
      · skip
        go_simp
        have hmk := Blk.made (T := 30) (cs := #[.string ⟨#[]⟩, .slice none 0 0, .slice none 0 0, .int .i64 0, .slice none 0 0, .int .i64 0]) w10
        have hbd := alloc_bel w10 (.cells #[.string ⟨#[]⟩, .slice none 0 0, .slice none 0 0, .int .i64 0, .slice none 0 0, .int .i64 0] 30)
        generalize hwv : World.alloc _ _ = w11
        rw [hwv] at hmk hbd
        obtain ⟨KX, hKX⟩ : ∃ k, w10.heap.size = k := ⟨_, rfl⟩
        have hle11 : w10.heap.size ≤ KX := Nat.le_of_eq hKX
        rw [hKX] at hmk ⊢
        have hlt11 := hmk.lt
        have HKX11 := Lib.hid hmk
        have hs11 := hbd.size
        have HMX11 := Lib.hid (HMX10.out.bel hbd)
        have HKY11 := Lib.hid (HKY10.out.below hbd HKY10.out.lt)
        have HBW11 := Lib.hid (HBW10.out.trans (hbd.mono HBW10.out.size))
        clear hbd hmk hwv hKX
        refine hK.out _ _ (hS.out _ HBW11.out) (fun hH20 => ?_)
        clear hK K
        try simp only [Act.put, Hd.sa, Hd.sz, Hd.ss]
        refine Hd.one 3 3 (o := ?_) ?_ (by kernel_rfl) (fun K hK => ?_)
        rotate_left 1
        · simp only [Hd.ga, Hd.gs, Hd.gz]
          exact rfl
        go_simp
        refine (HOY.out _ HBW11.out).mono ?_; rintro e w12 ⟨hbd, ua, uc, va, vc, qa, qc, rfl, hmx⟩
        have HMY12 := Lib.hid hmx
        have hs12 := hbd.size
        have HMX12 := Lib.hid (HMX11.out.bel hbd)
        have HKX12 := Lib.hid (HKX11.out.below hbd HKX11.out.lt)
        have HKY12 := Lib.hid (HKY11.out.below hbd HKY11.out.lt)
        have HBW12 := Lib.hid (HBW11.out.trans (hbd.mono HBW11.out.size))
        clear hbd hmx
        go_wp2_with fail
        refine hK.out _ _ (hS.out _ HBW12.out) (fun hH21 => ?_)
        clear hK K
        try simp only [Act.put, Hd.sa, Hd.sz, Hd.ss]
        have e0 := HKX12.out.c 0 _ rfl
        have e1 := HKX12.out.c 1 _ rfl
        have e2 := HKX12.out.c 2 _ rfl
        have e3 := HKX12.out.c 3 _ rfl
        have e4 := HKX12.out.c 4 _ rfl
        have e5 := HKX12.out.c 5 _ rfl
        have ef := HKX12.out.fz
        have el := HKX12.out.lt
        refine Hd.one 6 6 (o := ?_) ?_ (by kernel_rfl) (fun K hK => ?_)
        rotate_left 1
        · simp only [Hd.ga, Hd.gs, Hd.gz]
          exact rfl
        go_simp
        generalize hwv : World.setCell _ _ _ = w13
        have htwo := two_at hwv
        have HKX13 := Lib.hid (six_at hwv HKX12.out)
        have HKY13 := Lib.hid (htwo.blk HKY12.out (by omega))
        have HMX13 := Lib.hid (HMX12.out.two htwo (fun b hb => by omega))
        have HMY13 := Lib.hid (HMY12.out.two htwo (fun b hb => by omega))
        have HBW13 := Lib.hid (htwo.bel HBW12.out (by have := HBW8.out.size; omega))
        clear e0 e1 e2 e3 e4 e5 ef el hwv htwo
        refine hK.out _ _ (hS.out _ HBW13.out) (fun hH22 => ?_)
        clear hK K
        try simp only [Act.put, Hd.sa, Hd.sz, Hd.ss]
        have e0 := HKY13.out.c 0 _ rfl
        have e1 := HKY13.out.c 1 _ rfl
        have e2 := HKY13.out.c 2 _ rfl
        have e3 := HKY13.out.c 3 _ rfl
        have e4 := HKY13.out.c 4 _ rfl
        have e5 := HKY13.out.c 5 _ rfl
        have ef := HKY13.out.fz
        have el := HKY13.out.lt
        refine Hd.last 7 (o := ?_) ?_ (by kernel_rfl) (by kernel_rfl) (by kernel_rfl) (fun K hK => ?_)
        rotate_left 1
        · simp only [Hd.ga, Hd.gs, Hd.gz]
          exact rfl
        go_simp
        generalize hwv : World.setCell _ _ _ = w14
        have htwo := two_at hwv
        have HKX14 := Lib.hid (htwo.blk HKX13.out (by omega))
        have HKY14 := Lib.hid (six_at hwv HKY13.out)
        have HMX14 := Lib.hid ((HMX13.out.two htwo (fun b hb => by omega)).mono (S' := fun _ => True) (fun _ _ _ => trivial))
        have HMY14 := Lib.hid ((HMY13.out.two htwo (fun b hb => by omega)).mono (S' := fun _ => True) (fun _ _ _ => trivial))
        have HBW14 := Lib.hid (htwo.bel HBW13.out (by have := HBW8.out.size; omega))
        clear e0 e1 e2 e3 e4 e5 ef el hwv htwo
        refine hK.out _ _ ?_
        clear hK K
        try simp only [Act.put, Hd.sa, Hd.sz, Hd.ss]
        simp only [NoPanic]
        go_wp2_with fail
        go_meet
        exact ⟨KX, KY, xa, xc, ya, yc, za, zc, ua, uc, va, vc, qa, qc, rfl, rfl, HKX14.out, HKY14.out, HMX14.out, HMY14.out, HBW14.out⟩
  · skip
    go_simp
    have hmk := Blk.made (T := 30) (cs := #[.string ⟨#[]⟩, .slice none 0 0, .slice none 0 0, .int .i64 0, .slice none 0 0, .int .i64 0]) w8
    have hbd := alloc_bel w8 (.cells #[.string ⟨#[]⟩, .slice none 0 0, .slice none 0 0, .int .i64 0, .slice none 0 0, .int .i64 0] 30)
    generalize hwv : World.alloc _ _ = w9
    rw [hwv] at hmk hbd
    obtain ⟨KX, hKX⟩ : ∃ k, w8.heap.size = k := ⟨_, rfl⟩
    have hle9 : w8.heap.size ≤ KX := Nat.le_of_eq hKX
    rw [hKX] at hmk ⊢
    have hlt9 := hmk.lt
    have HKX9 := Lib.hid hmk
    have hs9 := hbd.size
    have HBW9 := Lib.hid (HBW8.out.trans (hbd.mono HBW8.out.size))
    clear hbd hmk hwv hKX
    refine hK.out _ _ (hS.out _ HBW9.out) (fun hH23 => ?_)
    clear hK K
    try simp only [Act.put, Hd.sa, Hd.sz, Hd.ss]
    refine Hd.two 1 5 (o := ?_) (p := ?_) ?_ ?_ (by kernel_rfl) (fun K hK => ?_) (fun K hK => ?_)
    rotate_left 2
    · simp only [Hd.ga, Hd.gs, Hd.gz]
      exact rfl
    · simp only [Hd.ga, Hd.gs, Hd.gz]
      exact rfl
    · skip
      go_simp
      refine (HOX.out _ HBW9.out).mono ?_; rintro e w10 ⟨hbd, xa, xc, ya, yc, za, zc, rfl, hmx⟩
      have HMX10 := Lib.hid hmx
      have hs10 := hbd.size
      have HKX10 := Lib.hid (HKX9.out.below hbd HKX9.out.lt)
      have HBW10 := Lib.hid (HBW9.out.trans (hbd.mono HBW9.out.size))
      clear hbd hmx
      go_wp2_with fail
      refine hK.out _ _ (hS.out _ HBW10.out) (fun hH24 => ?_)
      clear hK K
      try simp only [Act.put, Hd.sa, Hd.sz, Hd.ss]
      refine Hd.two 3 5 (o := ?_) (p := ?_) ?_ ?_ (by kernel_rfl) (fun K hK => ?_) (fun K hK => ?_)
      rotate_left 2
      · simp only [Hd.ga, Hd.gs, Hd.gz]
        exact rfl
      · simp only [Hd.ga, Hd.gs, Hd.gz]
        exact rfl
      · skip
        go_simp
        refine (HOY.out _ HBW10.out).mono ?_; rintro e w11 ⟨hbd, ua, uc, va, vc, qa, qc, rfl, hmx⟩
        have HMY11 := Lib.hid hmx
        have hs11 := hbd.size
        have HMX11 := Lib.hid (HMX10.out.bel hbd)
        have HKX11 := Lib.hid (HKX10.out.below hbd HKX10.out.lt)
        have HBW11 := Lib.hid (HBW10.out.trans (hbd.mono HBW10.out.size))
        clear hbd hmx
        go_wp2_with fail
        refine hK.out _ _ (hS.out _ HBW11.out) (fun hH25 => ?_)
        clear hK K
        try simp only [Act.put, Hd.sa, Hd.sz, Hd.ss]
        refine Hd.one 5 5 (o := ?_) ?_ (by kernel_rfl) (fun K hK => ?_)
        rotate_left 1
        · simp only [Hd.ga, Hd.gs, Hd.gz]
          exact rfl
        go_simp
        have hmk := Blk.made (T := 30) (cs := #[.string ⟨#[]⟩, .slice none 0 0, .slice none 0 0, .int .i64 0, .slice none 0 0, .int .i64 0]) w11
        have hbd := alloc_bel w11 (.cells #[.string ⟨#[]⟩, .slice none 0 0, .slice none 0 0, .int .i64 0, .slice none 0 0, .int .i64 0] 30)
        generalize hwv : World.alloc _ _ = w12
        rw [hwv] at hmk hbd
        obtain ⟨KY, hKY⟩ : ∃ k, w11.heap.size = k := ⟨_, rfl⟩
        have hle12 : w11.heap.size ≤ KY := Nat.le_of_eq hKY
        rw [hKY] at hmk ⊢
        have hlt12 := hmk.lt
        have HKY12 := Lib.hid hmk
        have hs12 := hbd.size
        have HMX12 := Lib.hid (HMX11.out.bel hbd)
        have HMY12 := Lib.hid (HMY11.out.bel hbd)
        have HKX12 := Lib.hid (HKX11.out.below hbd HKX11.out.lt)
        have HBW12 := Lib.hid (HBW11.out.trans (hbd.mono HBW11.out.size))
        clear hbd hmk hwv hKY
        refine hK.out _ _ (hS.out _ HBW12.out) (fun hH26 => ?_)
        clear hK K
        try simp only [Act.put, Hd.sa, Hd.sz, Hd.ss]
        have e0 := HKX12.out.c 0 _ rfl
        have e1 := HKX12.out.c 1 _ rfl
        have e2 := HKX12.out.c 2 _ rfl
        have e3 := HKX12.out.c 3 _ rfl
        have e4 := HKX12.out.c 4 _ rfl
        have e5 := HKX12.out.c 5 _ rfl
        have ef := HKX12.out.fz
        have el := HKX12.out.lt
        refine Hd.one 6 6 (o := ?_) ?_ (by kernel_rfl) (fun K hK => ?_)
        rotate_left 1
        · simp only [Hd.ga, Hd.gs, Hd.gz]
          exact rfl
        go_simp
        generalize hwv : World.setCell _ _ _ = w13
        have htwo := two_at hwv
        have HKX13 := Lib.hid (six_at hwv HKX12.out)
        have HKY13 := Lib.hid (htwo.blk HKY12.out (by omega))
        have HMX13 := Lib.hid (HMX12.out.two htwo (fun b hb => by omega))
        have HMY13 := Lib.hid (HMY12.out.two htwo (fun b hb => by omega))
        have HBW13 := Lib.hid (htwo.bel HBW12.out (by have := HBW8.out.size; omega))
        clear e0 e1 e2 e3 e4 e5 ef el hwv htwo
        refine hK.out _ _ (hS.out _ HBW13.out) (fun hH27 => ?_)
        clear hK K
        try simp only [Act.put, Hd.sa, Hd.sz, Hd.ss]
        have e0 := HKY13.out.c 0 _ rfl
        have e1 := HKY13.out.c 1 _ rfl
        have e2 := HKY13.out.c 2 _ rfl
        have e3 := HKY13.out.c 3 _ rfl
        have e4 := HKY13.out.c 4 _ rfl
        have e5 := HKY13.out.c 5 _ rfl
        have ef := HKY13.out.fz
        have el := HKY13.out.lt
        refine Hd.last 7 (o := ?_) ?_ (by kernel_rfl) (by kernel_rfl) (by kernel_rfl) (fun K hK => ?_)
        rotate_left 1
        · simp only [Hd.ga, Hd.gs, Hd.gz]
          exact rfl
        go_simp
        generalize hwv : World.setCell _ _ _ = w14
        have htwo := two_at hwv
        have HKX14 := Lib.hid (htwo.blk HKX13.out (by omega))
        have HKY14 := Lib.hid (six_at hwv HKY13.out)
        have HMX14 := Lib.hid ((HMX13.out.two htwo (fun b hb => by omega)).mono (S' := fun _ => True) (fun _ _ _ => trivial))
        have HMY14 := Lib.hid ((HMY13.out.two htwo (fun b hb => by omega)).mono (S' := fun _ => True) (fun _ _ _ => trivial))
        have HBW14 := Lib.hid (htwo.bel HBW13.out (by have := HBW8.out.size; omega))
        clear e0 e1 e2 e3 e4 e5 ef el hwv htwo
        refine hK.out _ _ ?_
        clear hK K
        try simp only [Act.put, Hd.sa, Hd.sz, Hd.ss]
        simp only [NoPanic]
        go_wp2_with fail
        go_meet
        exact ⟨KX, KY, xa, xc, ya, yc, za, zc, ua, uc, va, vc, qa, qc, rfl, rfl, HKX14.out, HKY14.out, HMX14.out, HMY14.out, HBW14.out⟩
      · skip
        go_simp
        have hmk := Blk.made (T := 30) (cs := #[.string ⟨#[]⟩, .slice none 0 0, .slice none 0 0, .int .i64 0, .slice none 0 0, .int .i64 0]) w10
        have hbd := alloc_bel w10 (.cells #[.string ⟨#[]⟩, .slice none 0 0, .slice none 0 0, .int .i64 0, .slice none 0 0, .int .i64 0] 30)
        generalize hwv : World.alloc _ _ = w11
        rw [hwv] at hmk hbd
        obtain ⟨KY, hKY⟩ : ∃ k, w10.heap.size = k := ⟨_, rfl⟩
        have hle11 : w10.heap.size ≤ KY := Nat.le_of_eq hKY
        rw [hKY] at hmk ⊢
        have hlt11 := hmk.lt
        have HKY11 := Lib.hid hmk
        have hs11 := hbd.size
        have HMX11 := Lib.hid (HMX10.out.bel hbd)
        have HKX11 := Lib.hid (HKX10.out.below hbd HKX10.out.lt)
        have HBW11 := Lib.hid (HBW10.out.trans (hbd.mono HBW10.out.size))
        clear hbd hmk hwv hKY
        refine hK.out _ _ (hS.out _ HBW11.out) (fun hH28 => ?_)
        clear hK K
        try simp only [Act.put, Hd.sa, Hd.sz, Hd.ss]
        refine Hd.one 3 3 (o := ?_) ?_ (by kernel_rfl) (fun K hK => ?_)
        rotate_left 1
        · simp only [Hd.ga, Hd.gs, Hd.gz]
          exact rfl
        go_simp
        refine (HOY.out _ HBW11.out).mono ?_; rintro e w12 ⟨hbd, ua, uc, va, vc, qa, qc, rfl, hmx⟩
        have HMY12 := Lib.hid hmx
        have hs12 := hbd.size
        have HMX12 := Lib.hid (HMX11.out.bel hbd)
        have HKX12 := Lib.hid (HKX11.out.below hbd HKX11.out.lt)
        have HKY12 := Lib.hid (HKY11.out.below hbd HKY11.out.lt)
        have HBW12 := Lib.hid (HBW11.out.trans (hbd.mono HBW11.out.size))
        clear hbd hmx
        go_wp2_with fail
        refine hK.out _ _ (hS.out _ HBW12.out) (fun hH29 => ?_)
        clear hK K
        try simp only [Act.put, Hd.sa, Hd.sz, Hd.ss]
        have e0 := HKX12.out.c 0 _ rfl
        have e1 := HKX12.out.c 1 _ rfl
        have e2 := HKX12.out.c 2 _ rfl
        have e3 := HKX12.out.c 3 _ rfl
        have e4 := HKX12.out.c 4 _ rfl
        have e5 := HKX12.out.c 5 _ rfl
        have ef := HKX12.out.fz
        have el := HKX12.out.lt
        refine Hd.one 6 6 (o := ?_) ?_ (by kernel_rfl) (fun K hK => ?_)
        rotate_left 1
        · simp only [Hd.ga, Hd.gs, Hd.gz]
          exact rfl
        go_simp
        generalize hwv : World.setCell _ _ _ = w13
        have htwo := two_at hwv
        have HKX13 := Lib.hid (six_at hwv HKX12.out)
        have HKY13 := Lib.hid (htwo.blk HKY12.out (by omega))
        have HMX13 := Lib.hid (HMX12.out.two htwo (fun b hb => by omega))
        have HMY13 := Lib.hid (HMY12.out.two htwo (fun b hb => by omega))
        have HBW13 := Lib.hid (htwo.bel HBW12.out (by have := HBW8.out.size; omega))
        clear e0 e1 e2 e3 e4 e5 ef el hwv htwo
        refine hK.out _ _ (hS.out _ HBW13.out) (fun hH30 => ?_)
        clear hK K
        try simp only [Act.put, Hd.sa, Hd.sz, Hd.ss]
        have e0 := HKY13.out.c 0 _ rfl
        have e1 := HKY13.out.c 1 _ rfl
        have e2 := HKY13.out.c 2 _ rfl
        have e3 := HKY13.out.c 3 _ rfl
        have e4 := HKY13.out.c 4 _ rfl
        have e5 := HKY13.out.c 5 _ rfl
        have ef := HKY13.out.fz
        have el := HKY13.out.lt
        refine Hd.last 7 (o := ?_) ?_ (by kernel_rfl) (by kernel_rfl) (by kernel_rfl) (fun K hK => ?_)
        rotate_left 1
        · simp only [Hd.ga, Hd.gs, Hd.gz]
          exact rfl
        go_simp
        generalize hwv : World.setCell _ _ _ = w14
        have htwo := two_at hwv
        have HKX14 := Lib.hid (htwo.blk HKX13.out (by omega))
        have HKY14 := Lib.hid (six_at hwv HKY13.out)
        have HMX14 := Lib.hid ((HMX13.out.two htwo (fun b hb => by omega)).mono (S' := fun _ => True) (fun _ _ _ => trivial))
        have HMY14 := Lib.hid ((HMY13.out.two htwo (fun b hb => by omega)).mono (S' := fun _ => True) (fun _ _ _ => trivial))
        have HBW14 := Lib.hid (htwo.bel HBW13.out (by have := HBW8.out.size; omega))
        clear e0 e1 e2 e3 e4 e5 ef el hwv htwo
        refine hK.out _ _ ?_
        clear hK K
        try simp only [Act.put, Hd.sa, Hd.sz, Hd.ss]
        simp only [NoPanic]
        go_wp2_with fail
        go_meet
        exact ⟨KX, KY, xa, xc, ya, yc, za, zc, ua, uc, va, vc, qa, qc, rfl, rfl, HKX14.out, HKY14.out, HMX14.out, HMY14.out, HBW14.out⟩
    · skip
      go_simp
      have hmk := Blk.made (T := 30) (cs := #[.string ⟨#[]⟩, .slice none 0 0, .slice none 0 0, .int .i64 0, .slice none 0 0, .int .i64 0]) w9
      have hbd := alloc_bel w9 (.cells #[.string ⟨#[]⟩, .slice none 0 0, .slice none 0 0, .int .i64 0, .slice none 0 0, .int .i64 0] 30)
      generalize hwv : World.alloc _ _ = w10
      rw [hwv] at hmk hbd
      obtain ⟨KY, hKY⟩ : ∃ k, w9.heap.size = k := ⟨_, rfl⟩
      have hle10 : w9.heap.size ≤ KY := Nat.le_of_eq hKY
      rw [hKY] at hmk ⊢
      have hlt10 := hmk.lt
      have HKY10 := Lib.hid hmk
      have hs10 := hbd.size
      have HKX10 := Lib.hid (HKX9.out.below hbd HKX9.out.lt)
      have HBW10 := Lib.hid (HBW9.out.trans (hbd.mono HBW9.out.size))
      clear hbd hmk hwv hKY
      refine hK.out _ _ (hS.out _ HBW10.out) (fun hH31 => ?_)
      clear hK K
      try simp only [Act.put, Hd.sa, Hd.sz, Hd.ss]
      refine Hd.one 1 1 (o := ?_) ?_ (by kernel_rfl) (fun K hK => ?_)
      rotate_left 1
      · simp only [Hd.ga, Hd.gs, Hd.gz]
        exact rfl
      go_simp
      refine (HOX.out _ HBW10.out).mono ?_; rintro e w11 ⟨hbd, xa, xc, ya, yc, za, zc, rfl, hmx⟩
      have HMX11 := Lib.hid hmx
      have hs11 := hbd.size
      have HKX11 := Lib.hid (HKX10.out.below hbd HKX10.out.lt)
      have HKY11 := Lib.hid (HKY10.out.below hbd HKY10.out.lt)
      have HBW11 := Lib.hid (HBW10.out.trans (hbd.mono HBW10.out.size))
      clear hbd hmx
      go_wp2_with fail
      refine hK.out _ _ (hS.out _ HBW11.out) (fun hH32 => ?_)
      clear hK K
      try simp only [Act.put, Hd.sa, Hd.sz, Hd.ss]
      refine Hd.one 3 3 (o := ?_) ?_ (by kernel_rfl) (fun K hK => ?_)
      rotate_left 1
      · simp only [Hd.ga, Hd.gs, Hd.gz]
        exact rfl
      go_simp
      refine (HOY.out _ HBW11.out).mono ?_; rintro e w12 ⟨hbd, ua, uc, va, vc, qa, qc, rfl, hmx⟩
      have HMY12 := Lib.hid hmx
      have hs12 := hbd.size
      have HMX12 := Lib.hid (HMX11.out.bel hbd)
      have HKX12 := Lib.hid (HKX11.out.below hbd HKX11.out.lt)
      have HKY12 := Lib.hid (HKY11.out.below hbd HKY11.out.lt)
      have HBW12 := Lib.hid (HBW11.out.trans (hbd.mono HBW11.out.size))
      clear hbd hmx
      go_wp2_with fail
      refine hK.out _ _ (hS.out _ HBW12.out) (fun hH33 => ?_)
      clear hK K
      try simp only [Act.put, Hd.sa, Hd.sz, Hd.ss]
      have e0 := HKX12.out.c 0 _ rfl
      have e1 := HKX12.out.c 1 _ rfl
      have e2 := HKX12.out.c 2 _ rfl
      have e3 := HKX12.out.c 3 _ rfl
      have e4 := HKX12.out.c 4 _ rfl
      have e5 := HKX12.out.c 5 _ rfl
      have ef := HKX12.out.fz
      have el := HKX12.out.lt
      refine Hd.one 6 6 (o := ?_) ?_ (by kernel_rfl) (fun K hK => ?_)
      rotate_left 1
      · simp only [Hd.ga, Hd.gs, Hd.gz]
        exact rfl
      go_simp
      generalize hwv : World.setCell _ _ _ = w13
      have htwo := two_at hwv
      have HKX13 := Lib.hid (six_at hwv HKX12.out)
      have HKY13 := Lib.hid (htwo.blk HKY12.out (by omega))
      have HMX13 := Lib.hid (HMX12.out.two htwo (fun b hb => by omega))
      have HMY13 := Lib.hid (HMY12.out.two htwo (fun b hb => by omega))
      have HBW13 := Lib.hid (htwo.bel HBW12.out (by have := HBW8.out.size; omega))
      clear e0 e1 e2 e3 e4 e5 ef el hwv htwo
      refine hK.out _ _ (hS.out _ HBW13.out) (fun hH34 => ?_)
      clear hK K
      try simp only [Act.put, Hd.sa, Hd.sz, Hd.ss]
      have e0 := HKY13.out.c 0 _ rfl
      have e1 := HKY13.out.c 1 _ rfl
      have e2 := HKY13.out.c 2 _ rfl
      have e3 := HKY13.out.c 3 _ rfl
      have e4 := HKY13.out.c 4 _ rfl
      have e5 := HKY13.out.c 5 _ rfl
      have ef := HKY13.out.fz
      have el := HKY13.out.lt
      refine Hd.last 7 (o := ?_) ?_ (by kernel_rfl) (by kernel_rfl) (by kernel_rfl) (fun K hK => ?_)
      rotate_left 1
      · simp only [Hd.ga, Hd.gs, Hd.gz]
        exact rfl
      go_simp
      generalize hwv : World.setCell _ _ _ = w14
      have htwo := two_at hwv
      have HKX14 := Lib.hid (htwo.blk HKX13.out (by omega))
      have HKY14 := Lib.hid (six_at hwv HKY13.out)
      have HMX14 := Lib.hid ((HMX13.out.two htwo (fun b hb => by omega)).mono (S' := fun _ => True) (fun _ _ _ => trivial))
      have HMY14 := Lib.hid ((HMY13.out.two htwo (fun b hb => by omega)).mono (S' := fun _ => True) (fun _ _ _ => trivial))
      have HBW14 := Lib.hid (htwo.bel HBW13.out (by have := HBW8.out.size; omega))
      clear e0 e1 e2 e3 e4 e5 ef el hwv htwo
      refine hK.out _ _ ?_
      clear hK K
      try simp only [Act.put, Hd.sa, Hd.sz, Hd.ss]
      simp only [NoPanic]
      go_wp2_with fail
      go_meet
      exact ⟨KX, KY, xa, xc, ya, yc, za, zc, ua, uc, va, vc, qa, qc, rfl, rfl, HKX14.out, HKY14.out, HMX14.out, HMY14.out, HBW14.out⟩
  · skip
    go_simp
    have hmk := Blk.made (T := 30) (cs := #[.string ⟨#[]⟩, .slice none 0 0, .slice none 0 0, .int .i64 0, .slice none 0 0, .int .i64 0]) w8
    have hbd := alloc_bel w8 (.cells #[.string ⟨#[]⟩, .slice none 0 0, .slice none 0 0, .int .i64 0, .slice none 0 0, .int .i64 0] 30)
    generalize hwv : World.alloc _ _ = w9
    rw [hwv] at hmk hbd
    obtain ⟨KY, hKY⟩ : ∃ k, w8.heap.size = k := ⟨_, rfl⟩
    have hle9 : w8.heap.size ≤ KY := Nat.le_of_eq hKY
    rw [hKY] at hmk ⊢
    have hlt9 := hmk.lt
    have HKY9 := Lib.hid hmk
    have hs9 := hbd.size
    have HBW9 := Lib.hid (HBW8.out.trans (hbd.mono HBW8.out.size))
    clear hbd hmk hwv hKY
    refine hK.out _ _ (hS.out _ HBW9.out) (fun hH35 => ?_)
    clear hK K
    try simp only [Act.put, Hd.sa, Hd.sz, Hd.ss]
    refine Hd.two 1 4 (o := ?_) (p := ?_) ?_ ?_ (by kernel_rfl) (fun K hK => ?_) (fun K hK => ?_)
    rotate_left 2
    · simp only [Hd.ga, Hd.gs, Hd.gz]
      exact rfl
    · simp only [Hd.ga, Hd.gs, Hd.gz]
      exact rfl
    · skip
      go_simp
      refine (HOX.out _ HBW9.out).mono ?_; rintro e w10 ⟨hbd, xa, xc, ya, yc, za, zc, rfl, hmx⟩
      have HMX10 := Lib.hid hmx
      have hs10 := hbd.size
      have HKY10 := Lib.hid (HKY9.out.below hbd HKY9.out.lt)
      have HBW10 := Lib.hid (HBW9.out.trans (hbd.mono HBW9.out.size))
      clear hbd hmx
      go_wp2_with fail
      refine hK.out _ _ (hS.out _ HBW10.out) (fun hH36 => ?_)
      clear hK K
      try simp only [Act.put, Hd.sa, Hd.sz, Hd.ss]
      refine Hd.two 3 4 (o := ?_) (p := ?_) ?_ ?_ (by kernel_rfl) (fun K hK => ?_) (fun K hK => ?_)
      rotate_left 2
      · simp only [Hd.ga, Hd.gs, Hd.gz]
        exact rfl
      · simp only [Hd.ga, Hd.gs, Hd.gz]
        exact rfl
      · skip
        go_simp
        refine (HOY.out _ HBW10.out).mono ?_; rintro e w11 ⟨hbd, ua, uc, va, vc, qa, qc, rfl, hmx⟩
        have HMY11 := Lib.hid hmx
        have hs11 := hbd.size
        have HMX11 := Lib.hid (HMX10.out.bel hbd)
        have HKY11 := Lib.hid (HKY10.out.below hbd HKY10.out.lt)
        have HBW11 := Lib.hid (HBW10.out.trans (hbd.mono HBW10.out.size))
        clear hbd hmx
        go_wp2_with fail
        refine hK.out _ _ (hS.out _ HBW11.out) (fun hH37 => ?_)
        clear hK K
        try simp only [Act.put, Hd.sa, Hd.sz, Hd.ss]
        refine Hd.one 4 4 (o := ?_) ?_ (by kernel_rfl) (fun K hK => ?_)
        rotate_left 1
        · simp only [Hd.ga, Hd.gs, Hd.gz]
          exact rfl
        go_simp
        have hmk := Blk.made (T := 30) (cs := #[.string ⟨#[]⟩, .slice none 0 0, .slice none 0 0, .int .i64 0, .slice none 0 0, .int .i64 0]) w11
        have hbd := alloc_bel w11 (.cells #[.string ⟨#[]⟩, .slice none 0 0, .slice none 0 0, .int .i64 0, .slice none 0 0, .int .i64 0] 30)
        generalize hwv : World.alloc _ _ = w12
        rw [hwv] at hmk hbd
        obtain ⟨KX, hKX⟩ : ∃ k, w11.heap.size = k := ⟨_, rfl⟩
        have hle12 : w11.heap.size ≤ KX := Nat.le_of_eq hKX
        rw [hKX] at hmk ⊢
        have hlt12 := hmk.lt
        have HKX12 := Lib.hid hmk
        have hs12 := hbd.size
        have HMX12 := Lib.hid (HMX11.out.bel hbd)
        have HMY12 := Lib.hid (HMY11.out.bel hbd)
        have HKY12 := Lib.hid (HKY11.out.below hbd HKY11.out.lt)
        have HBW12 := Lib.hid (HBW11.out.trans (hbd.mono HBW11.out.size))
        clear hbd hmk hwv hKX
        refine hK.out _ _ (hS.out _ HBW12.out) (fun hH38 => ?_)
        clear hK K
        try simp only [Act.put, Hd.sa, Hd.sz, Hd.ss]
        have e0 := HKX12.out.c 0 _ rfl
        have e1 := HKX12.out.c 1 _ rfl
        have e2 := HKX12.out.c 2 _ rfl
        have e3 := HKX12.out.c 3 _ rfl
        have e4 := HKX12.out.c 4 _ rfl
        have e5 := HKX12.out.c 5 _ rfl
        have ef := HKX12.out.fz
        have el := HKX12.out.lt
        refine Hd.one 6 6 (o := ?_) ?_ (by kernel_rfl) (fun K hK => ?_)
        rotate_left 1
        · simp only [Hd.ga, Hd.gs, Hd.gz]
          exact rfl
        go_simp
        generalize hwv : World.setCell _ _ _ = w13
        have htwo := two_at hwv
        have HKX13 := Lib.hid (six_at hwv HKX12.out)
        have HKY13 := Lib.hid (htwo.blk HKY12.out (by omega))
        have HMX13 := Lib.hid (HMX12.out.two htwo (fun b hb => by omega))
        have HMY13 := Lib.hid (HMY12.out.two htwo (fun b hb => by omega))
        have HBW13 := Lib.hid (htwo.bel HBW12.out (by have := HBW8.out.size; omega))
        clear e0 e1 e2 e3 e4 e5 ef el hwv htwo
        refine hK.out _ _ (hS.out _ HBW13.out) (fun hH39 => ?_)
        clear hK K
        try simp only [Act.put, Hd.sa, Hd.sz, Hd.ss]
        have e0 := HKY13.out.c 0 _ rfl
        have e1 := HKY13.out.c 1 _ rfl
        have e2 := HKY13.out.c 2 _ rfl
        have e3 := HKY13.out.c 3 _ rfl
        have e4 := HKY13.out.c 4 _ rfl
        have e5 := HKY13.out.c 5 _ rfl
        have ef := HKY13.out.fz
        have el := HKY13.out.lt
        refine Hd.last 7 (o := ?_) ?_ (by kernel_rfl) (by kernel_rfl) (by kernel_rfl) (fun K hK => ?_)
        rotate_left 1
        · simp only [Hd.ga, Hd.gs, Hd.gz]
          exact rfl
        go_simp
        generalize hwv : World.setCell _ _ _ = w14
        have htwo := two_at hwv
        have HKX14 := Lib.hid (htwo.blk HKX13.out (by omega))
        have HKY14 := Lib.hid (six_at hwv HKY13.out)
        have HMX14 := Lib.hid ((HMX13.out.two htwo (fun b hb => by omega)).mono (S' := fun _ => True) (fun _ _ _ => trivial))
        have HMY14 := Lib.hid ((HMY13.out.two htwo (fun b hb => by omega)).mono (S' := fun _ => True) (fun _ _ _ => trivial))
        have HBW14 := Lib.hid (htwo.bel HBW13.out (by have := HBW8.out.size; omega))
        clear e0 e1 e2 e3 e4 e5 ef el hwv htwo
        refine hK.out _ _ ?_
        clear hK K
        try simp only [Act.put, Hd.sa, Hd.sz, Hd.ss]
        simp only [NoPanic]
        go_wp2_with fail
        go_meet
        exact ⟨KX, KY, xa, xc, ya, yc, za, zc, ua, uc, va, vc, qa, qc, rfl, rfl, HKX14.out, HKY14.out, HMX14.out, HMY14.out, HBW14.out⟩
      · skip
        go_simp
        have hmk := Blk.made (T := 30) (cs := #[.string ⟨#[]⟩, .slice none 0 0, .slice none 0 0, .int .i64 0, .slice none 0 0, .int .i64 0]) w10
        have hbd := alloc_bel w10 (.cells #[.string ⟨#[]⟩, .slice none 0 0, .slice none 0 0, .int .i64 0, .slice none 0 0, .int .i64 0] 30)
        generalize hwv : World.alloc _ _ = w11
        rw [hwv] at hmk hbd
        obtain ⟨KX, hKX⟩ : ∃ k, w10.heap.size = k := ⟨_, rfl⟩
        have hle11 : w10.heap.size ≤ KX := Nat.le_of_eq hKX
        rw [hKX] at hmk ⊢
        have hlt11 := hmk.lt
        have HKX11 := Lib.hid hmk
        have hs11 := hbd.size
        have HMX11 := Lib.hid (HMX10.out.bel hbd)
        have HKY11 := Lib.hid (HKY10.out.below hbd HKY10.out.lt)
        have HBW11 := Lib.hid (HBW10.out.trans (hbd.mono HBW10.out.size))
        clear hbd hmk hwv hKX
        refine hK.out _ _ (hS.out _ HBW11.out) (fun hH40 => ?_)
        clear hK K
        try simp only [Act.put, Hd.sa, Hd.sz, Hd.ss]
        refine Hd.one 3 3 (o := ?_) ?_ (by kernel_rfl) (fun K hK => ?_)
        rotate_left 1
        · simp only [Hd.ga, Hd.gs, Hd.gz]
          exact rfl
        go_simp
        refine (HOY.out _ HBW11.out).mono ?_; rintro e w12 ⟨hbd, ua, uc, va, vc, qa, qc, rfl, hmx⟩
        have HMY12 := Lib.hid hmx
        have hs12 := hbd.size
        have HMX12 := Lib.hid (HMX11.out.bel hbd)
        have HKX12 := Lib.hid (HKX11.out.below hbd HKX11.out.lt)
        have HKY12 := Lib.hid (HKY11.out.below hbd HKY11.out.lt)
        have HBW12 := Lib.hid (HBW11.out.trans (hbd.mono HBW11.out.size))
        clear hbd hmx
        go_wp2_with fail
        refine hK.out _ _ (hS.out _ HBW12.out) (fun hH41 => ?_)
        clear hK K
        try simp only [Act.put, Hd.sa, Hd.sz, Hd.ss]
        have e0 := HKX12.out.c 0 _ rfl
        have e1 := HKX12.out.c 1 _ rfl
        have e2 := HKX12.out.c 2 _ rfl
        have e3 := HKX12.out.c 3 _ rfl
        have e4 := HKX12.out.c 4 _ rfl
        have e5 := HKX12.out.c 5 _ rfl
        have ef := HKX12.out.fz
        have el := HKX12.out.lt
        refine Hd.one 6 6 (o := ?_) ?_ (by kernel_rfl) (fun K hK => ?_)
        rotate_left 1
        · simp only [Hd.ga, Hd.gs, Hd.gz]
          exact rfl
        go_simp
        generalize hwv : World.setCell _ _ _ = w13
        have htwo := two_at hwv
        have HKX13 := Lib.hid (six_at hwv HKX12.out)
        have HKY13 := Lib.hid (htwo.blk HKY12.out (by omega))
        have HMX13 := Lib.hid (HMX12.out.two htwo (fun b hb => by omega))
        have HMY13 := Lib.hid (HMY12.out.two htwo (fun b hb => by omega))
        have HBW13 := Lib.hid (htwo.bel HBW12.out (by have := HBW8.out.size; omega))
        clear e0 e1 e2 e3 e4 e5 ef el hwv htwo
        refine hK.out _ _ (hS.out _ HBW13.out) (fun hH42 => ?_)
        clear hK K
        try simp only [Act.put, Hd.sa, Hd.sz, Hd.ss]
        have e0 := HKY13.out.c 0 _ rfl
        have e1 := HKY13.out.c 1 _ rfl
        have e2 := HKY13.out.c 2 _ rfl
        have e3 := HKY13.out.c 3 _ rfl
        have e4 := HKY13.out.c 4 _ rfl
        have e5 := HKY13.out.c 5 _ rfl
        have ef := HKY13.out.fz
        have el := HKY13.out.lt
        refine Hd.last 7 (o := ?_) ?_ (by kernel_rfl) (by kernel_rfl) (by kernel_rfl) (fun K hK => ?_)
        rotate_left 1
        · simp only [Hd.ga, Hd.gs, Hd.gz]
          exact rfl
        go_simp
        generalize hwv : World.setCell _ _ _ = w14
        have htwo := two_at hwv
        have HKX14 := Lib.hid (htwo.blk HKX13.out (by omega))
        have HKY14 := Lib.hid (six_at hwv HKY13.out)
        have HMX14 := Lib.hid ((HMX13.out.two htwo (fun b hb => by omega)).mono (S' := fun _ => True) (fun _ _ _ => trivial))
        have HMY14 := Lib.hid ((HMY13.out.two htwo (fun b hb => by omega)).mono (S' := fun _ => True) (fun _ _ _ => trivial))
        have HBW14 := Lib.hid (htwo.bel HBW13.out (by have := HBW8.out.size; omega))
        clear e0 e1 e2 e3 e4 e5 ef el hwv htwo
        refine hK.out _ _ ?_
        clear hK K
        try simp only [Act.put, Hd.sa, Hd.sz, Hd.ss]
        simp only [NoPanic]
        go_wp2_with fail
        go_meet
        exact ⟨KX, KY, xa, xc, ya, yc, za, zc, ua, uc, va, vc, qa, qc, rfl, rfl, HKX14.out, HKY14.out, HMX14.out, HMY14.out, HBW14.out⟩
    · skip
      go_simp
      have hmk := Blk.made (T := 30) (cs := #[.string ⟨#[]⟩, .slice none 0 0, .slice none 0 0, .int .i64 0, .slice none 0 0, .int .i64 0]) w9
      have hbd := alloc_bel w9 (.cells #[.string ⟨#[]⟩, .slice none 0 0, .slice none 0 0, .int .i64 0, .slice none 0 0, .int .i64 0] 30)
      generalize hwv : World.alloc _ _ = w10
      rw [hwv] at hmk hbd
      obtain ⟨KX, hKX⟩ : ∃ k, w9.heap.size = k := ⟨_, rfl⟩
      have hle10 : w9.heap.size ≤ KX := Nat.le_of_eq hKX
      rw [hKX] at hmk ⊢
      have hlt10 := hmk.lt
      have HKX10 := Lib.hid hmk
      have hs10 := hbd.size
      have HKY10 := Lib.hid (HKY9.out.below hbd HKY9.out.lt)
      have HBW10 := Lib.hid (HBW9.out.trans (hbd.mono HBW9.out.size))
      clear hbd hmk hwv hKX
      refine hK.out _ _ (hS.out _ HBW10.out) (fun hH43 => ?_)
      clear hK K
      try simp only [Act.put, Hd.sa, Hd.sz, Hd.ss]
      refine Hd.one 1 1 (o := ?_) ?_ (by kernel_rfl) (fun K hK => ?_)
      rotate_left 1
      · simp only [Hd.ga, Hd.gs, Hd.gz]
        exact rfl
      go_simp
      refine (HOX.out _ HBW10.out).mono ?_; rintro e w11 ⟨hbd, xa, xc, ya, yc, za, zc, rfl, hmx⟩
      have HMX11 := Lib.hid hmx
      have hs11 := hbd.size
      have HKX11 := Lib.hid (HKX10.out.below hbd HKX10.out.lt)
      have HKY11 := Lib.hid (HKY10.out.below hbd HKY10.out.lt)
      have HBW11 := Lib.hid (HBW10.out.trans (hbd.mono HBW10.out.size))
      clear hbd hmx
      go_wp2_with fail
      refine hK.out _ _ (hS.out _ HBW11.out) (fun hH44 => ?_)
      clear hK K
      try simp only [Act.put, Hd.sa, Hd.sz, Hd.ss]
      refine Hd.one 3 3 (o := ?_) ?_ (by kernel_rfl) (fun K hK => ?_)
      rotate_left 1
      · simp only [Hd.ga, Hd.gs, Hd.gz]
        exact rfl
      go_simp
      refine (HOY.out _ HBW11.out).mono ?_; rintro e w12 ⟨hbd, ua, uc, va, vc, qa, qc, rfl, hmx⟩
      have HMY12 := Lib.hid hmx
      have hs12 := hbd.size
      have HMX12 := Lib.hid (HMX11.out.bel hbd)
      have HKX12 := Lib.hid (HKX11.out.below hbd HKX11.out.lt)
      have HKY12 := Lib.hid (HKY11.out.below hbd HKY11.out.lt)
      have HBW12 := Lib.hid (HBW11.out.trans (hbd.mono HBW11.out.size))
      clear hbd hmx
      go_wp2_with fail
      refine hK.out _ _ (hS.out _ HBW12.out) (fun hH45 => ?_)
      clear hK K
      try simp only [Act.put, Hd.sa, Hd.sz, Hd.ss]
      have e0 := HKX12.out.c 0 _ rfl
      have e1 := HKX12.out.c 1 _ rfl
      have e2 := HKX12.out.c 2 _ rfl
      have e3 := HKX12.out.c 3 _ rfl
      have e4 := HKX12.out.c 4 _ rfl
      have e5 := HKX12.out.c 5 _ rfl
      have ef := HKX12.out.fz
      have el := HKX12.out.lt
      refine Hd.one 6 6 (o := ?_) ?_ (by kernel_rfl) (fun K hK => ?_)
      rotate_left 1
      · simp only [Hd.ga, Hd.gs, Hd.gz]
        exact rfl
      go_simp
      generalize hwv : World.setCell _ _ _ = w13
      have htwo := two_at hwv
      have HKX13 := Lib.hid (six_at hwv HKX12.out)
      have HKY13 := Lib.hid (htwo.blk HKY12.out (by omega))
      have HMX13 := Lib.hid (HMX12.out.two htwo (fun b hb => by omega))
      have HMY13 := Lib.hid (HMY12.out.two htwo (fun b hb => by omega))
      have HBW13 := Lib.hid (htwo.bel HBW12.out (by have := HBW8.out.size; omega))
      clear e0 e1 e2 e3 e4 e5 ef el hwv htwo
      refine hK.out _ _ (hS.out _ HBW13.out) (fun hH46 => ?_)
      clear hK K
      try simp only [Act.put, Hd.sa, Hd.sz, Hd.ss]
      have e0 := HKY13.out.c 0 _ rfl
      have e1 := HKY13.out.c 1 _ rfl
      have e2 := HKY13.out.c 2 _ rfl
      have e3 := HKY13.out.c 3 _ rfl
      have e4 := HKY13.out.c 4 _ rfl
      have e5 := HKY13.out.c 5 _ rfl
      have ef := HKY13.out.fz
      have el := HKY13.out.lt
      refine Hd.last 7 (o := ?_) ?_ (by kernel_rfl) (by kernel_rfl) (by kernel_rfl) (fun K hK => ?_)
      rotate_left 1
      · simp only [Hd.ga, Hd.gs, Hd.gz]
        exact rfl
      go_simp
      generalize hwv : World.setCell _ _ _ = w14
      have htwo := two_at hwv
      have HKX14 := Lib.hid (htwo.blk HKX13.out (by omega))
      have HKY14 := Lib.hid (six_at hwv HKY13.out)
      have HMX14 := Lib.hid ((HMX13.out.two htwo (fun b hb => by omega)).mono (S' := fun _ => True) (fun _ _ _ => trivial))
      have HMY14 := Lib.hid ((HMY13.out.two htwo (fun b hb => by omega)).mono (S' := fun _ => True) (fun _ _ _ => trivial))
      have HBW14 := Lib.hid (htwo.bel HBW13.out (by have := HBW8.out.size; omega))
      clear e0 e1 e2 e3 e4 e5 ef el hwv htwo
      refine hK.out _ _ ?_
      clear hK K
      try simp only [Act.put, Hd.sa, Hd.sz, Hd.ss]
      simp only [NoPanic]
      go_wp2_with fail
      go_meet
      exact ⟨KX, KY, xa, xc, ya, yc, za, zc, ua, uc, va, vc, qa, qc, rfl, rfl, HKX14.out, HKY14.out, HMX14.out, HMY14.out, HBW14.out⟩
 case rest =>
 obtain ⟨KX, KY, xa, xc, ya, yc, za, zc, ua, uc, va, vc, qa, qc, rfl, rfl, hkx, hky, hmx, hmy, hbw⟩ := hcut
 have hbw0 := HBC.out.trans (hbw.mono HBC.out.size)
 have c4 := (HK2C.out.below hbw HK2C.out.lt).c 4 _ rfl
 have x0 := hkx.c 0 _ rfl
 have x1 := hkx.c 1 _ rfl
 have x2 := hkx.c 2 _ rfl
 have x3 := hkx.c 3 _ rfl
 have x4 := hkx.c 4 _ rfl
 have x5 := hkx.c 5 _ rfl
 have hcb : cntL (M.body.take 1) ≤ 100000 := by
  have h0 := HC200.out
  rw [HBOD.out] at h0 ⊢
  show cntL [b] ≤ _
  rw [cntL_cons] at h0
  rw [cntL_cons, cntL_nil]
  omega
 have HRD := Lib.hid (rdepth_any (M.body.take 1) hcb _ wc ((HMC.out.bel hbw).body.cut 1 (by omega)))
 have ht1 : M.body.take 1 = [b] := by rw [HBOD.out]; rfl
 rw [ht1, HMX0.out.2.1] at HRD
 have HDX := Lib.hid (Depth_any (m := M) (pv := .slice xa pl xc) (tv := .slice ya tl yc) (by have := HC200.out; omega) wc hmx.body)
 rw [HMX0.out.1] at HDX
 unfold mtV at HDX
 have hl1 : decide ((1 : Int) ≤ (bc : Int)) = true := decide_eq_true (by omega)
 have hw1 : IntKind.i64.wrap ((d1 : Int) + 1) = (d1 : Int) + 1 := IntWalk.i64_in _ (by omega)
 have hw2 : IntKind.i64.wrap ((cn : Int) + 1) = (cn : Int) + 1 := IntWalk.i64_in _ (by omega)
 obtain ⟨WT, hWT⟩ : ∃ x, max D (d1 + 1) = x := ⟨_, rfl⟩
 have hmax2 : max (D : Int) ((d1 : Int) + 1) = (WT : Int) := by omega
 have HWT := Lib.hid hWT
 have HKX := Lib.hid hkx
 have HKY := Lib.hid hky
 have HMXX := Lib.hid hmx
 have HMYY := Lib.hid hmy
 have HB := Lib.hid hbw0
 clear hkx hky hmx hmy hbw0 hbw ht1 hWT hcb
 go_wp2_with fail
 refine HRD.out.mono ?_; rintro e w9 ⟨rfl, hw9⟩; obtain rfl := hw9
 go_wp2_with fail
 refine HDX.out.mono ?_; rintro e w10 ⟨rfl, hb10⟩
 have HB10 := Lib.hid (HB.out.trans (hb10.mono HB.out.size))
 have HKX10 := Lib.hid (HKX.out.below hb10 HKX.out.lt)
 have HKY10 := Lib.hid (HKY.out.below hb10 HKY.out.lt)
 have HMX10 := Lib.hid (HMXX.out.bel hb10)
 have HMY10 := Lib.hid (HMYY.out.bel hb10)
 clear hb10 x0 x1 x2 x3 x4 x5 c4
 have HCX : Hid (∀ v, Below w10.heap.size w10 v → Calls Tryz.prog 14 #[.agg #[.string ⟨M.name.toArray⟩, .slice xa pl xc, .slice ya tl yc, .int .i64 M.prim, .slice za bl zc, .int .i64 M.at_]] v (Back (.int .i64 (cn : Int)) v)) := Lib.hid (fun v hv => by
  have := Count_any (m := M) (by have := HC200.out; omega) v (HMX10.out.bel hv)
  unfold mtV at this
  rw [HMX0.out.2.2] at this
  exact this)
 have HCY : Hid (∀ v, Below w10.heap.size w10 v → Calls Tryz.prog 14 #[.agg #[.string ⟨M.name.toArray⟩, .slice ua pl uc, .slice va tl vc, .int .i64 M.prim, .slice qa bl qc, .int .i64 M.at_]] v (Back (.int .i64 ((cn : Int) + 1)) v)) := Lib.hid (fun v hv => by
  have := Count_any (m := M') (by have := HMY0.out.2.1; omega) v (HMY10.out.bel hv)
  unfold mtV at this
  rw [HMY0.out.2.1, HEQ.out.1, HEQ.out.2.1, HEQ.out.2.2] at this
  exact this)
 have HDY : Hid (∀ v, Below w10.heap.size w10 v → Calls Tryz.prog 12 #[.agg #[.string ⟨M.name.toArray⟩, .slice ua pl uc, .slice va tl vc, .int .i64 M.prim, .slice qa bl qc, .int .i64 M.at_]] v (Back (.int .i64 (WT : Int)) v)) := Lib.hid (fun v hv => by
  have := Depth_any (m := M') (pv := .slice ua pl uc) (tv := .slice va tl vc) (by have := HMY0.out.2.1; omega) v (HMY10.out.bel hv).body
  unfold mtV at this
  rw [HMY0.out.1, HWT.out, HEQ.out.1, HEQ.out.2.1, HEQ.out.2.2] at this
  exact this)
 have HCC : Hid (∀ v, Below w10.heap.size w10 v → Calls Tryz.prog 10 #[.agg #[.string ⟨M.name.toArray⟩, .slice ua pl uc, .slice va tl vc, .int .i64 M.prim, .slice qa bl qc, .int .i64 M.at_]] v (Back (.int .i64 (if WT ≤ 40 then 0 else 10)) v)) := Lib.hid (fun v hv => by
  have := Check_any M' _ _ _ (by have := HMY0.out.2.1; omega) HIN.out v (HMY10.out.bel hv)
  unfold mtV at this
  rw [HMY0.out.2.2, HWT.out, HEQ.out.1, HEQ.out.2.1, HEQ.out.2.2] at this
  exact this)
 have hS11 : Hid (∀ v, Below w10.heap.size w10 v → ((v.cell? ⟨KX, 0, none⟩ = some (.string ⟨M.name.toArray⟩) ∧ v.cell? ⟨KX, 1, none⟩ = some (.slice xa pl xc) ∧ v.cell? ⟨KX, 2, none⟩ = some (.slice ya tl yc) ∧ v.cell? ⟨KX, 3, none⟩ = some (.int .i64 M.prim) ∧ v.cell? ⟨KX, 4, none⟩ = some (.slice za bl zc) ∧ v.cell? ⟨KX, 5, none⟩ = some (.int .i64 M.at_)) ∧ (v.cell? ⟨KY, 0, none⟩ = some (.string ⟨M.name.toArray⟩) ∧ v.cell? ⟨KY, 1, none⟩ = some (.slice ua pl uc) ∧ v.cell? ⟨KY, 2, none⟩ = some (.slice va tl vc) ∧ v.cell? ⟨KY, 3, none⟩ = some (.int .i64 M.prim) ∧ v.cell? ⟨KY, 4, none⟩ = some (.slice qa bl qc) ∧ v.cell? ⟨KY, 5, none⟩ = some (.int .i64 M.at_)))) := Lib.hid (fun v hv => by
  have h1 := HKX10.out.below hv HKX10.out.lt
  have h2 := HKY10.out.below hv HKY10.out.lt
  exact ⟨⟨h1.c 0 _ rfl, h1.c 1 _ rfl, h1.c 2 _ rfl, h1.c 3 _ rfl, h1.c 4 _ rfl, h1.c 5 _ rfl⟩, h2.c 0 _ rfl, h2.c 1 _ rfl, h2.c 2 _ rfl, h2.c 3 _ rfl, h2.c 4 _ rfl, h2.c 5 _ rfl⟩)
 go_upto_region 11 with fail
 have HBV10 : Hid (Below w10.heap.size w10 w10.drew) := Lib.hid (Below.refl _ w10).drew
 refine wp_region_noPanic ?_
 refine Hd.start (fun v => (v.cell? ⟨KX, 0, none⟩ = some (.string ⟨M.name.toArray⟩) ∧ v.cell? ⟨KX, 1, none⟩ = some (.slice xa pl xc) ∧ v.cell? ⟨KX, 2, none⟩ = some (.slice ya tl yc) ∧ v.cell? ⟨KX, 3, none⟩ = some (.int .i64 M.prim) ∧ v.cell? ⟨KX, 4, none⟩ = some (.slice za bl zc) ∧ v.cell? ⟨KX, 5, none⟩ = some (.int .i64 M.at_)) ∧ (v.cell? ⟨KY, 0, none⟩ = some (.string ⟨M.name.toArray⟩) ∧ v.cell? ⟨KY, 1, none⟩ = some (.slice ua pl uc) ∧ v.cell? ⟨KY, 2, none⟩ = some (.slice va tl vc) ∧ v.cell? ⟨KY, 3, none⟩ = some (.int .i64 M.prim) ∧ v.cell? ⟨KY, 4, none⟩ = some (.slice qa bl qc) ∧ v.cell? ⟨KY, 5, none⟩ = some (.int .i64 M.at_))) (by kernel_rfl) (hS11.out _ HBV10.out) (fun hH0 => ?_)
 refine Hd.take 0 1 (oi := ?_) (v := ?_) ?_ (by kernel_rfl) (fun _ _ _ h => h) hH0 ?_ ?_ ?_
 rotate_left 2
 · simp only [Hd.ga, Hd.gz]
   exact rfl
 · rfl
 · intro w hSw
   (try dsimp only at hSw)
   go_simp
   try with_reducible rfl
 try simp only [Act.put, Hd.sa, Hd.sz, Hd.ss]
 refine Hd.take 2 3 (oi := ?_) (v := ?_) ?_ (by kernel_rfl) (fun _ _ _ h => h) hH0 ?_ ?_ ?_
 rotate_left 2
 · simp only [Hd.ga, Hd.gs, Hd.gz]
   exact rfl
 · rfl
 · intro w hSw
   (try dsimp only at hSw)
   go_simp
   try with_reducible rfl
 try simp only [Act.put, Hd.sa, Hd.sz, Hd.ss]
 refine Hd.one 1 1 (o := ?_) ?_ (by kernel_rfl) (fun K hK => ?_)
 rotate_left 1
 · simp only [Hd.ga, Hd.gs, Hd.gz]
   exact rfl
 go_simp
 refine (HCY.out _ HBV10.out).mono ?_; rintro e w11 ⟨rfl, hbd⟩
 have HBV11 := Lib.hid (HBV10.out.trans (hbd.mono HBV10.out.size))
 clear hbd
 go_wp2_with fail
 refine hK.out _ _ (hS11.out _ HBV11.out) (fun hH1 => ?_)
 clear hK K
 try simp only [Act.put, Hd.sa, Hd.sz, Hd.ss]
 refine Hd.one 3 3 (o := ?_) ?_ (by kernel_rfl) (fun K hK => ?_)
 rotate_left 1
 · simp only [Hd.ga, Hd.gs, Hd.gz]
   exact rfl
 go_simp
 refine (HCX.out _ HBV11.out).mono ?_; rintro e w12 ⟨rfl, hbd⟩
 have HBV12 := Lib.hid (HBV11.out.trans (hbd.mono HBV11.out.size))
 clear hbd
 go_wp2_with fail
 refine hK.out _ _ (hS11.out _ HBV12.out) (fun hH2 => ?_)
 clear hK K
 try simp only [Act.put, Hd.sa, Hd.sz, Hd.ss]
 refine Hd.take 4 5 (oi := ?_) (v := ?_) ?_ (by kernel_rfl) (fun _ _ _ h => h) hH2 ?_ ?_ ?_
 rotate_left 2
 · simp only [Hd.ga, Hd.gs, Hd.gz]
   exact rfl
 · rfl
 · intro w hSw
   (try dsimp only at hSw)
   go_simp
   try with_reducible rfl
 try simp only [Act.put, Hd.sa, Hd.sz, Hd.ss]
 refine Hd.take 5 6 (oi := ?_) (v := ?_) ?_ (by kernel_rfl) (fun _ _ _ h => h) hH2 ?_ ?_ ?_
 rotate_left 2
 · simp only [Hd.ga, Hd.gs, Hd.gz]
   exact rfl
 · rfl
 · intro w hSw
   (try dsimp only at hSw)
   go_simp
   try with_reducible rfl
 try simp only [Act.put, Hd.sa, Hd.sz, Hd.ss]
 refine Hd.take 6 7 (oi := ?_) (v := ?_) ?_ (by kernel_rfl) (fun _ _ _ h => h) hH2 ?_ ?_ ?_
 rotate_left 2
 · simp only [Hd.ga, Hd.gs, Hd.gz]
   exact rfl
 · rfl
 · intro w hSw
   (try dsimp only at hSw)
   go_simp
   try with_reducible rfl
 try simp only [Act.put, Hd.sa, Hd.sz, Hd.ss]
 refine Hd.take 7 8 (oi := ?_) (v := ?_) ?_ (by kernel_rfl) (fun _ _ _ h => h) hH2 ?_ ?_ ?_
 rotate_left 2
 · simp only [Hd.ga, Hd.gs, Hd.gz]
   exact rfl
 · rfl
 · intro w hSw
   (try dsimp only at hSw)
   go_simp
   try with_reducible rfl
 try simp only [Act.put, Hd.sa, Hd.sz, Hd.ss]
 refine Hd.take 9 10 (oi := ?_) (v := ?_) ?_ (by kernel_rfl) (fun _ _ _ h => h) hH2 ?_ ?_ ?_
 rotate_left 2
 · simp only [Hd.ga, Hd.gs, Hd.gz]
   exact rfl
 · rfl
 · intro w hSw
   (try dsimp only at hSw)
   go_simp
   try with_reducible rfl
 try simp only [Act.put, Hd.sa, Hd.sz, Hd.ss]
 refine Hd.one 8 8 (o := ?_) ?_ (by kernel_rfl) (fun K hK => ?_)
 rotate_left 1
 · simp only [Hd.ga, Hd.gs, Hd.gz]
   exact rfl
 go_simp
 refine (HDY.out _ HBV12.out).mono ?_; rintro e w13 ⟨rfl, hbd⟩
 have HBV13 := Lib.hid (HBV12.out.trans (hbd.mono HBV12.out.size))
 clear hbd
 go_wp2_with fail
 refine hK.out _ _ (hS11.out _ HBV13.out) (fun hH3 => ?_)
 clear hK K
 try simp only [Act.put, Hd.sa, Hd.sz, Hd.ss]
 refine Hd.take 10 11 (oi := ?_) (v := ?_) ?_ (by kernel_rfl) (fun _ _ _ h => h) hH3 ?_ ?_ ?_
 rotate_left 2
 · simp only [Hd.ga, Hd.gs, Hd.gz]
   exact rfl
 · rfl
 · intro w hSw
   (try dsimp only at hSw)
   go_simp
   try with_reducible rfl
 try simp only [Act.put, Hd.sa, Hd.sz, Hd.ss]
 refine Hd.last 11 (o := ?_) ?_ (by kernel_rfl) (by kernel_rfl) (by kernel_rfl) (fun K hK => ?_)
 rotate_left 1
 · simp only [Hd.ga, Hd.gs, Hd.gz]
   exact rfl
 go_simp
 refine hK.out _ _ ?_
 clear hK K
 try simp only [Act.put, Hd.sa, Hd.sz, Hd.ss]
 simp only [NoPanic]
 obtain ⟨y0, y1, y2, y3, y4, y5⟩ := (hS11.out _ HBV13.out).2
 have HCE := HCC.out _ HBV13.out
 have HEND := Lib.hid (HB10.out.trans (HBV13.out.mono HB10.out.size))
 clear hH0 hH1 hH2 hH3
 by_cases h40 : WT ≤ 40
 · rw [if_pos h40] at HCE
   have HCE := Lib.hid HCE
   have g1 : decide ((WT : Int) ≤ 40) = true := decide_eq_true (by omega)
   have g1n : decide (WT ≤ 40) = true := decide_eq_true h40
   go_wp2_with fail
   refine HCE.out.mono ?_; rintro e w14 ⟨rfl, hb14⟩
   have HE14 := Lib.hid (HEND.out.trans (hb14.mono HEND.out.size))
   clear hb14
   go_wp2_with fail
   go_ret
   exact ⟨by first | rfl | simp, HE14.out⟩
 · rw [if_neg h40] at HCE
   have HCE := Lib.hid HCE
   have g1 : decide ((WT : Int) ≤ 40) = false := decide_eq_false (by omega)
   have g1n : decide (WT ≤ 40) = false := decide_eq_false h40
   have g2 : decide ((40 : Int) < (WT : Int)) = true := decide_eq_true (by omega)
   have g2n : decide (40 < WT) = true := decide_eq_true (by omega)
   go_wp2_with fail
   refine HCE.out.mono ?_; rintro e w14 ⟨rfl, hb14⟩
   have HE14 := Lib.hid (HEND.out.trans (hb14.mono HEND.out.size))
   clear hb14
   go_wp2_with fail
   go_ret
   exact ⟨by first | rfl | simp, HE14.out⟩
end Tr
end Go.Proofs.YtfbhokdcnjekiaaGreatDoor
