/- rename: is a name among some? · rename: each name of a variable has a letter more (wip/gen/gen_rnw2.py prints this). · All nodes of a method; their names can be read (wip/gen/gen_rnal.py prints this). · few, its row one's own; append of texts, and the old slice stays. -/
import Derived.Test.YtmmgfifpjifjnaaGreatDoorRnA
import Derived.Test.YtmmgfifpjifjnaaGreatDoorRvB
import Derived.Test.YtmmgfifpjifjnaaGreatDoorTrC
import Derived.Deep.DeepCutAuto
import Derived.Laws.AppendOwnNone
import Derived.Test.YtmmgfifpjifjnaaGreatDoorRvF
import Derived.Deep.DeepAppendRoom
set_option linter.unusedVariables false
namespace Go.Proofs.YtmmgfifpjifjnaaGreatDoor
open Go.RowKit
namespace Rv
open Bs Sm Tr
theorem drop_cons {α : Type} {l : List α} {k : Nat} {x : α} (h : l[k]? = some x) : l.drop k = x :: l.drop (k + 1) := by
 obtain ⟨h1, h2⟩ := List.getElem?_eq_some_iff.1 h
 rw [List.drop_eq_getElem_cons h1, h2]
set_option maxRecDepth 100000 in
set_option maxHeartbeats 1600000 in
theorem among_any (s : Lx.Bytes) (K : List Lx.Bytes) (kv : Value) (w : World) (hl : Rd (fun _ => True) strV w kv K) (hn : K.length ≤ 1000000) :
  Calls Tryz.prog 34 #[.string ⟨s.toArray⟩, kv] w (fun e w' => e = .returned (.bool (decide (s ∈ K))) ∧ w' = w) := by
 obtain ⟨a, c, rfl, hc, hm⟩ := hl.form
 obtain ⟨n, hN⟩ : ∃ n, K.length = n := ⟨_, rfl⟩
 obtain ⟨Q, hQ⟩ : ∃ q, decide (s ∈ K) = q := ⟨_, rfl⟩
 have HQ : Hid (Q = decide (s ∈ K.drop 0)) := Lib.hid (by rw [← hQ]; rfl)
 rw [hQ]
 have HL := Lib.hid hl
 have HN := Lib.hid hN
 rw [hN] at hn HL ⊢
 clear hl hN hQ hc hm
 go_enter Tryz.func34, Tryz.ntmps34
 go_wp2_with fail
 go_loopw [9] (fun y wr => ∃ k : Nat, y = .int .i64 (k : Int) ∧ k ≤ n ∧ wr = w ∧ Hid (Q = decide (s ∈ K.drop k))) (fun y _ => n - (intOf y).toNat)
 case atStart => exact ⟨0, rfl, Nat.zero_le _, rfl, HQ⟩
 obtain ⟨k, rfl, hk, hw, HK⟩ := hrel
 subst hw
 by_cases hkn : k < n
 · have hdec : decide ((k : Int) < (n : Int)) = true := by simpa using hkn
   have hkw : IntKind.i64.wrap ((k : Int) + 1) = (k : Int) + 1 := IntWalk.i64_in _ (by omega)
   have hrd := HL.out
   obtain ⟨a', cap', e, -, -, -, hcl⟩ := hrd
   simp only [Value.slice.injEq] at e
   obtain ⟨rfl, -, -⟩ := e
   obtain ⟨g, off, rfl, -, -, hcl⟩ := hcl (by have := HN.out; omega)
   have hkl : k < K.length := by have := HN.out; omega
   obtain ⟨x, hx⟩ : ∃ x, K[k]? = some x := ⟨_, List.getElem?_eq_getElem hkl⟩
   have c0 := hcl k x hx
   have hd := drop_cons hx
   have hb1 : (0 : Int) ≤ (k : Int) := by omega
   have hb2 : (k : Int) < (n : Int) := by omega
   unfold strV at c0
   have HD := Lib.hid hd
   clear hcl hx hd
   by_cases hxs : x = s
   · have hE : Hid (Q = true) := Lib.hid (by rw [HK.out, HD.out, hxs]; simp)
     subst hxs
     clear HK HD
     go_wp2_with fail
     go_ret
     exact ⟨by rw [hE.out]; rfl, rfl⟩
   have hE : Hid (Q = decide (s ∈ K.drop (k + 1))) := Lib.hid (by rw [HK.out, HD.out]; simp [Ne.symm hxs])
   have hne : (x == s) = false := beq_eq_false_iff_ne.2 hxs
   clear HK HD hxs
   go_wp2_with fail
   exact ⟨⟨k + 1, by simp, by omega, by first | rfl | trivial, hE⟩, by simp only [intOf]; omega⟩
 obtain rfl : k = n := by omega
 have hdec : decide ((k : Int) < (k : Int)) = false := by simp
 have hE : Hid (Q = false) := Lib.hid (by rw [HK.out, List.drop_eq_nil_of_le (by rw [HN.out]; exact Nat.le_refl _)]; simp)
 clear HK
 go_wp2_with fail
 go_ret
 exact ⟨by rw [hE.out]; rfl, rfl⟩
def RnOk (l : List Nd) : Prop := ∀ (B0 : Nat) (Ks : List Lx.Bytes) (v kv : Value) (w : World), B0 ≤ w.heap.size → Tree (fun b => b < B0) w v l → Rd (fun _ => True) strV w kv Ks → Ks.length + 9 * cntL l ≤ 100000 → (∀ x ∈ allL l, x.names.length ≤ 9 ∧ x.name.length ≤ 5000 ∧ ∀ s ∈ x.names, s.length ≤ 60) →
 Calls Tryz.prog 17 #[v, kv] w (fun e w' => Below w.heap.size w w' ∧ ∃ v', e = .returned v' ∧ OwnT 53 w.heap.size (fun b => b < B0 ∨ w.heap.size ≤ b) w' v' (rnL Ks l))
theorem kpz {S : Nat → Prop} {k : Nat} {w : World} (i : Nat) (hS : ¬ S k) (u : Value) : Kp S w (w.setCell ⟨k, i, none⟩ u) := ⟨by simp [World.setCell], fun b hb _ => Below.heap_setCell _ ⟨k, i, none⟩ _ b (fun e => hS (by have e : b = k := e; rw [← e]; exact hb))⟩
theorem takeI_snoc' {α : Type} {l : List α} {k : Nat} {x : α} (h : l[k]? = some x) : l.take (k + 1) = l.take k ++ [x] := by
 obtain ⟨h1, h2⟩ := List.getElem?_eq_some_iff.1 h
 rw [List.take_succ_eq_append_getElem h1, h2]
theorem rn_take {Ks : List Lx.Bytes} {l : List Nd} {k : Nat} {x : Nd} (h : l[k]? = some x) : rnL Ks (l.take (k + 1)) = rnL Ks (l.take k) ++ [rn1 Ks x] := by
 rw [take_snoc h, rnL_map, rnL_map, List.map_append]; rfl
set_option maxRecDepth 100000 in
set_option maxHeartbeats 6400000 in
theorem rn_step (l : List Nd) (hcnt : cntL l ≤ 100000) (IH : ∀ y ∈ l, RnOk y.kids) : RnOk l := by
 intro B0 Ks v kv w hB0 hl hkv hK hall
 have hadd : ∀ (s : Lx.Bytes) (w : World), s.length ≤ 5000 → (Op.stringOp .add ⟨#[90]⟩ ⟨s.toArray⟩).run Tryz.prog w = .ok (.string ⟨(zB s).toArray⟩) w := fun s w hs => by
  rw [Go.run_string_add_sum _ _ _ (by show 1 + s.toArray.size ≤ _; simp; omega)]
  rfl
 obtain ⟨i0, hi0, hz0, hz1, hz2⟩ := info_parts (show (Tryz.prog.info? 53).map (fun i => (i.zero, i.size, i.bytes)) = some (some (.agg #[.int .i64 0, .string ⟨#[]⟩, .int .i64 0, .slice none 0 0, .slice none 0 0, .int .i64 0]), 6, 88) by kernel_rfl)
 have tsl : Tryz.prog.underlying 23 = some (.slice 53) := by kernel_rfl
 obtain ⟨iI, hiI, hI0, hI1, hI2⟩ := info_parts (show (Tryz.prog.info? 9).map (fun i => (i.zero, i.size, i.bytes)) = some (some (.string ⟨#[]⟩), 1, 16) by kernel_rfl)
 have tI : Tryz.prog.underlying 22 = some (.slice 9) := by kernel_rfl
 obtain ⟨a, c, rfl, hc, hm⟩ := hl.form
 obtain ⟨ua, uc, rfl, huc, hum⟩ := hkv.form
 obtain ⟨n, hn⟩ : ∃ n, l.length = n := ⟨_, rfl⟩
 obtain ⟨kn, hkn⟩ : ∃ n, Ks.length = n := ⟨_, rfl⟩
 have HN := Lib.hid hn
 have HKN := Lib.hid hkn
 have HALL := Lib.hid hall
 have HKL := Lib.hid hK
 have hn200 : n ≤ 100000 := by have := len_le_cnt l; omega
 have hkn200 : kn ≤ 100000 := by omega
 rw [hn] at hl ⊢
 rw [hkn] at hkv ⊢
 have HL := Lib.hid hl
 have HKV := Lib.hid hkv
 have HADD := Lib.hid hadd
 replace IH := Lib.hid IH
 clear hl hn hm hc hcnt hkv hkn huc hum hK hall hadd
 go_enter Tryz.func17, Tryz.ntmps17
 go_wp2_with fail
 go_loopw [5, 15] (fun o y wr => ∃ (k : Nat), y = .int .i64 (k : Int) ∧ k ≤ n ∧ Hid (OwnT 53 w.heap.size (fun b => b < B0 ∨ w.heap.size ≤ b) wr o (rnL Ks (l.take k))) ∧ Below w.heap.size w wr) (fun _ y _ => n - (intOf y).toNat)
 case atStart => exact ⟨0, rfl, Nat.zero_le _, Lib.hid (by rw [List.take_zero, rnL_nil]; exact OwnT.nil _ _ _ _), Below.refl _ _⟩
 obtain ⟨k, rfl, hk, hown, hbr⟩ := hrel
 rename World => wO
 by_cases hkn : k < n
 · have hdec : decide ((k : Int) < (n : Int)) = true := by simpa using hkn
   have hkw : IntKind.i64.wrap ((k : Int) + 1) = (k : Int) + 1 := IntWalk.i64_in _ (by omega)
   obtain ⟨gb, off, x, ka, kc, na, nc, rfl, hx, hgb, -, ⟨c0, c1, c2, c3, c4, c5⟩, hkt, hnt⟩ := (HL.out.bel hbr).nth k hkn
   have hxl := List.mem_of_getElem? hx
   obtain ⟨hxn9, hxnm, hxs⟩ := HALL.out x (mem_all hxl)
   have HXS := Lib.hid hxs
   have HIH := Lib.hid (IH.out x hxl)
   obtain ⟨I, hI⟩ : ∃ I, (if x.kind = 9 then Ks ++ x.names else Ks) = I := ⟨_, rfl⟩
   obtain ⟨M, hM⟩ : ∃ M, (if x.kind = 9 then x.names.map zB else x.names) = M := ⟨_, rfl⟩
   obtain ⟨iN, hiN⟩ : ∃ q, I.length = q := ⟨_, rfl⟩
   obtain ⟨mN, hmN⟩ : ∃ q, M.length = q := ⟨_, rfl⟩
   obtain ⟨nm, hnm⟩ : ∃ q, rnS Ks x.kind x.name = q := ⟨_, rfl⟩
   have hKX : I.length + 9 * cntL x.kids ≤ 100000 := by
    have h1 := cnt_mem hxl
    have h2 := HKL.out
    rw [← hI]
    split
    · rw [List.length_append]; omega
    omega
   have hrn : rn1 Ks x = .mk x.kind nm x.num (rnL I x.kids) M x.at_ := by unfold rn1; rw [hI, hM, hnm]
   have HRN := Lib.hid hrn
   have HKX := Lib.hid hKX
   have HI := Lib.hid hI
   have HM := Lib.hid hM
   have HiN := Lib.hid hiN
   have HmN := Lib.hid hmN
   have HNM := Lib.hid hnm
   have HAX : Hid (∀ y ∈ allL x.kids, y.names.length ≤ 9 ∧ y.name.length ≤ 5000 ∧ ∀ s ∈ y.names, s.length ≤ 60) := Lib.hid (fun y hy => HALL.out y (all_kids hxl hy))
   have HTK := Lib.hid (rn_take (Ks := Ks) hx)
   have HTL : Hid ((rnL Ks (l.take k)).length = k) := Lib.hid (by rw [rn_len, List.length_take, HN.out]; omega)
   have hszr := hbr.size
   have HKV5 : Hid (∀ v, Below wO.heap.size wO v → Rd (fun b => b < wO.heap.size) strV v (.slice ua kn uc) Ks) := Lib.hid (fun v hv => ((HKV.out.below hbr).mono (S' := fun b => b < wO.heap.size) (fun b _ h => h)).kp (Kp.lt hv))
   have HKT5 : Hid (∀ v, Below wO.heap.size wO v → Tree (fun b => b < B0) v (.slice ka x.kids.length kc) x.kids) := Lib.hid (fun v hv => hkt.bel hv)
   have HNT5 : Hid (∀ v, Below wO.heap.size wO v → Rd (fun b => b < B0) strV v (.slice na x.names.length nc) x.names) := Lib.hid (fun v hv => hnt.below hv)
   have HO5 : Hid (∀ v, Below wO.heap.size wO v → OwnT 53 w.heap.size (fun b => b < B0 ∨ w.heap.size ≤ b) v u5 (rnL Ks (l.take k))) := Lib.hid (fun v hv => hown.out.bel hv)
   have hub : ∀ b, u5.ownBlock = some b → w.heap.size ≤ b ∧ b < wO.heap.size := fun b hb => by
    obtain ⟨vl', -, hr', -⟩ := hown.out
    exact hr'.lt b hb
   clear hI hM hiN hmN hnm hKX hrn hkt hnt hx hxl hxs
   go_upto_region 6 with fail
   have hX5 := alloc_bel wO (.cells #[.int .i64 x.kind, .string ⟨x.name.toArray⟩, .int .i64 x.num, .slice ka x.kids.length kc, .slice na x.names.length nc, .int .i64 x.at_] 53)
   have hk5 := Blk.made (T := 53) (cs := #[.int .i64 x.kind, .string ⟨x.name.toArray⟩, .int .i64 x.num, .slice ka x.kids.length kc, .slice na x.names.length nc, .int .i64 x.at_]) wO
   obtain ⟨W5, hW5⟩ : ∃ W, wO.alloc (.cells #[.int .i64 x.kind, .string ⟨x.name.toArray⟩, .int .i64 x.num, .slice ka x.kids.length kc, .slice na x.names.length nc, .int .i64 x.at_] 53) = W := ⟨_, rfl⟩
   rw [hW5] at hX5 hk5 ⊢
   obtain ⟨KB, hKB⟩ : ∃ b, wO.heap.size = b := ⟨_, rfl⟩
   rw [hKB] at hk5 hX5 HKV5 HKT5 HNT5 HO5 hub hszr ⊢
   have HUB := Lib.hid hub
   have HX5 := Lib.hid hX5
   have HK5 := Lib.hid hk5
   have HBR := Lib.hid hbr
   have hkl := hk5.lt
   clear hW5 hX5 c0 c1 c2 c3 c4 c5 hub hown hbr
   have x0 := hk5.c 0 _ rfl
   clear hk5
   go_upto_if 22 with fail
   go_cut [9] (fun s9 wx => ∃ (ia : Option Addr) (ic : Nat) (ma : Option Addr) (mc : Nat), s9 = .slice ia iN ic ∧ Hid (Below KB wO wx) ∧ Hid (Rd (fun b => b ≠ KB) strV wx (.slice ia iN ic) I) ∧ Hid (Rd (fun b => b < B0 ∨ KB < b) strV wx (.slice ma mN mc) M) ∧ Hid (Blk 53 KB #[.int .i64 x.kind, .string ⟨x.name.toArray⟩, .int .i64 x.num, .slice ka x.kids.length kc, .slice ma mN mc, .int .i64 x.at_] wx))
   case first =>
    by_cases h9 : x.kind = 9
    · have hd9 : (x.kind == 9) = true := by simp [h9]
      have hI := HI.out
      have hM := HM.out
      rw [if_pos h9] at hI hM
      have HI2 := Lib.hid hI
      have HM2 := Lib.hid hM
      clear hI hM h9
      go_upto_region 8 with fail
      have hS : ∀ v, Below W5.heap.size W5 v → v.cell? ⟨KB, 4, none⟩ = some (.slice na x.names.length nc) := fun v hv => (HK5.out.below hv HK5.out.lt).c 4 _ rfl
      have HBW : Hid (Below W5.heap.size W5 W5.drew) := Lib.hid (Below.refl _ W5).drew
      refine wp_region_noPanic ?_
      refine Hd.start (fun v => v.cell? ⟨KB, 4, none⟩ = some (.slice na x.names.length nc)) (by kernel_rfl) (hS _ HBW.out) (fun hH0 => ?_)
      obtain ⟨wd, hwd⟩ : ∃ W, W5.drew = W := ⟨_, rfl⟩
      rw [hwd] at HBW hH0 ⊢
      clear hwd
      refine Hd.tk 1 2 hH0 ?_
      refine Hd.tk 3 4 hH0 ?_
      refine Hd.tk 4 5 hH0 ?_
      have hX6 := alloc_bel wd (.cells #[] 9)
      have hE6 := World.ownsRow_made (e := 9) (size := 1) wd #[] 0 (Nat.le_refl _) (by unfold maxLen; omega) rfl
      refine Hd.on 0 (fun K hK => ?_)
      go_simp
      obtain ⟨w6, hw6⟩ : ∃ X, wd.alloc (.cells #[] 9) = X := ⟨_, rfl⟩
      rw [hw6] at hX6 hE6 ⊢
      have HB6 := Lib.hid (HBW.out.trans (hX6.mono HBW.out.size))
      have HE6 := Lib.hid (own_mono hE6 HBW.out.size)
      clear hX6 hE6 hw6
      refine hK.out _ _ (hS _ HB6.out) (fun hH1 => ?_)
      clear hK K
      try simp only [Act.put, Hd.sa, Hd.sz, Hd.ss]
      have hbkl : KB ≤ W5.heap.size := by omega
      have hbk6 : Below KB wO w6 := HX5.out.trans (HB6.out.mono hbkl)
      have HK6 := Lib.hid ((HKV5.out _ hbk6).mono (S' := fun _ => True) (fun _ _ _ => trivial))
      clear hbk6
      refine Hd.on 2 (fun K hK => ?_)
      refine step_rd (S := fun _ => True) (f := strV) (fun _ => rfl) rfl (.tmp 23) (.tmp 24) 22 9 rfl tI iI (.string ⟨#[]⟩) 16 hiI hI0 hI1 hI2 rfl (by exact HE6.out) (by simp [Act.eval]) (by simp [Act.eval]) HK6.out (by have := HKN.out; unfold maxLen; omega) (by have := HKN.out; omega) (by exact HB6.out.size) ?_
      intro v2 w2 hown2 hg2 hat2
      have hb2 := HB6.out.grown hg2 HB6.out.size (fun k hk => (HE6.out.lt k hk).1)
      have HB2 := Lib.hid hb2
      have HP2 := Lib.hid (show w2.ownsRow W5.heap.size 9 1 v2 Ks.length (Ks.map strV) by simpa using hown2)
      clear hown2 hg2 hat2 hb2
      refine hK.out _ _ (hS _ HB2.out) (fun hH2 => ?_)
      clear hK K
      try simp only [Act.put, Hd.sa, Hd.sz, Hd.ss]
      have hbk2 : Below KB wO w2 := HX5.out.trans (HB2.out.mono hbkl)
      have HN2 := Lib.hid ((HNT5.out _ hbk2).mono (S' := fun _ => True) (fun _ _ _ => trivial))
      clear hbk2
      refine Hd.on 5 (fun K hK => ?_)
      refine step_rd (S := fun _ => True) (f := strV) (fun _ => rfl) rfl (.tmp 25) (.tmp 27) 22 9 rfl tI iI (.string ⟨#[]⟩) 16 hiI hI0 hI1 hI2 rfl (by exact HP2.out) (by simp [Act.eval]) (by simp [Act.eval]) HN2.out (by have := HKN.out; unfold maxLen; omega) (by have := HKN.out; omega) (by exact HB2.out.size) ?_
      intro v5 w5 hown5 hg5 hat5
      have hb5 := HB2.out.grown hg5 HB2.out.size (fun k hk => (HP2.out.lt k hk).1)
      have HB5 := Lib.hid hb5
      have hp5 : w5.ownsRow W5.heap.size 9 1 v5 (Ks ++ x.names).length ((Ks ++ x.names).map strV) := by rw [List.length_append, List.map_append]; exact hown5
      rw [HI2.out] at hp5
      have hr5 := Rd.of hp5
      obtain ⟨ia, ic, hv5, -, -⟩ := hr5.form
      rw [HiN.out] at hv5
      subst hv5
      have HP5 := Lib.hid hr5
      clear hown5 hg5 hat5 hb5 hp5 hr5
      refine hK.out _ _ (hS _ HB5.out) (fun hH5 => ?_)
      clear hK K
      try simp only [Act.put, Hd.sa, Hd.sz, Hd.ss]
      refine Hd.la 6 (fun K hK => ?_)
      go_simp
      refine hK.out _ _ ?_
      clear hK K
      try simp only [Act.put, Hd.sa, Hd.sz, Hd.ss]
      simp only [NoPanic]
      have y4 := hS _ HB5.out
      go_wp2_with fail
      clear hS hH0 y4
      go_loopw [10, 32] (fun o y wr => ∃ (j : Nat), y = .int .i64 (j : Int) ∧ j ≤ x.names.length ∧ Hid (wr.ownsRow w5.heap.size 9 1 o j ((M.take j).map strV)) ∧ Hid (Below w5.heap.size w5 wr)) (fun _ y _ => x.names.length - (intOf y).toNat)
      case atStart => exact ⟨0, rfl, Nat.zero_le _, Lib.hid (by rw [List.take_zero]; exact World.ownsRow_nil _ _ _ _), Lib.hid (Below.refl _ _)⟩
      obtain ⟨j, rfl, hj, HOW, HBL⟩ := hrel
      have hbw5 : Below W5.heap.size W5 wr := HB5.out.trans (HBL.out.mono HB5.out.size)
      have hbk : Below KB wO wr := HX5.out.trans (hbw5.mono hbkl)
      by_cases hjx : j < x.names.length
      · have hdj : decide ((j : Int) < (x.names.length : Int)) = true := decide_eq_true (by omega)
        have hjw : IntKind.i64.wrap ((j : Int) + 1) = (j : Int) + 1 := IntWalk.i64_in _ (by omega)
        have hrd := HNT5.out wr hbk
        obtain ⟨a', cap', e, -, -, -, hcl⟩ := hrd
        simp only [Value.slice.injEq] at e
        obtain ⟨rfl, -, -⟩ := e
        obtain ⟨g, off2, rfl, -, -, hcl⟩ := hcl (by omega)
        obtain ⟨t, ht⟩ : ∃ t, x.names[j]? = some t := ⟨_, List.getElem?_eq_getElem hjx⟩
        have t0 := hcl j t ht
        unfold strV at t0
        have htl : t.length ≤ 5000 := by have := HXS.out t (List.mem_of_getElem? ht); omega
        have hMt : M[j]? = some (zB t) := by rw [← HM2.out, List.getElem?_map, ht]; rfl
        have HMT := Lib.hid (takeI_snoc' hMt)
        have hadd := fun w => HADD.out t w htl
        have hb1 : (0 : Int) ≤ (j : Int) := by omega
        have hb2 : (j : Int) < (x.names.length : Int) := by omega
        have hownl := HOW.out
        have hszl := HBL.out.size
        clear hcl ht hMt hbk hbw5
        go_wp2_with (at_builtin; refine wpList_append_own _ rfl _ _ 22 rfl w5.heap.size 9 iI (.string ⟨#[]⟩) 1 16 tI hiI hI0 hI1 hI2 rfl (by decide) _ _ _ rfl (hownl.alloc _) ⟨wr.heap.size, 0, none⟩ 1 1 [.string ⟨(zB t).toArray⟩] rfl rfl ?c1 ?c2 ?c3 ?c4 ?c5 ?_)
        case c2 => rfl
        case c3 => unfold maxLen; omega
        case c4 => omega
        case c5 => first | omega | (simp; omega)
        intro v' w3 hown' hgrow _
        have hg1 : ∀ k, u10.ownBlock = some k → w5.heap.size ≤ k := fun k hk => (hownl.lt k hk).1
        have HB3 := Lib.hid ((HBL.out.alloc hszl _).grown hgrow (by simp; omega) hg1)
        have HOW3 := Lib.hid (show w3.ownsRow w5.heap.size 9 1 v' (j + 1) ((M.take (j + 1)).map strV) by rw [HMT.out, List.map_append, List.map_take]; exact hown')
        clear hownl hown' hgrow hg1
        go_wp2_with fail
        exact ⟨⟨j + 1, by simp, by omega, HOW3, HB3⟩, by simp only [intOf]; omega⟩
      obtain rfl : j = x.names.length := by omega
      have hdj : decide ((x.names.length : Int) < (x.names.length : Int)) = false := by simp
      have hml : M.length = x.names.length := by rw [← HM2.out, List.length_map]
      have hrow := HOW.out
      rw [List.take_of_length_le (by omega), ← hml] at hrow
      have hr := Rd.of hrow
      obtain ⟨ma, mc, hv, -, -⟩ := hr.form
      rw [HmN.out] at hv
      subst hv
      have hkb := HK5.out.below hbw5 HK5.out.lt
      have y4 := hkb.c 4 _ rfl
      have yf := hkb.fz
      have hkl5 : W5.heap.size ≤ w5.heap.size := HB5.out.size
      have HR := Lib.hid hr
      have HKB := Lib.hid hkb
      have HIV := Lib.hid (HP5.out.kp (Kp.of HBL.out))
      have HBK := Lib.hid hbk
      clear hrow hr hkb hbk hbw5
      go_wp2_with fail
      go_meet
      exact ⟨ia, ic, ma, mc, rfl, Lib.hid (HBK.out.setCell (p := ⟨KB, 4, none⟩) (Nat.le_refl KB) _), Lib.hid ((HIV.out.kp (kpz 4 (show ¬ W5.heap.size ≤ KB by omega) _)).mono (fun b hb _ => by omega)), Lib.hid ((HR.out.kp (kpz 4 (show ¬ w5.heap.size ≤ KB by omega) _)).mono (fun b hb _ => .inr (by omega))), Lib.hid (HKB.out.set_ 4 _ _ rfl)⟩
    have hd9 : (x.kind == 9) = false := by simp [h9]
    have hI := HI.out
    have hM := HM.out
    rw [if_neg h9] at hI hM
    have HI2 := Lib.hid hI
    have HM2 := Lib.hid hM
    clear hI hM
    go_wp2_with fail
    go_meet
    have e1 : kn = iN := by rw [← HKN.out, ← HiN.out, HI2.out]
    have e2 : x.names.length = mN := by rw [← HmN.out, HM2.out]
    refine ⟨ua, uc, na, nc, by rw [e1], HX5, Lib.hid ?_, Lib.hid ?_, Lib.hid ?_⟩
    · have h := (HKV5.out _ HX5.out).mono (S' := fun b => b ≠ KB) (fun b hb _ => by omega)
      rw [e1, HI2.out] at h; exact h
    · have h := (HNT5.out _ HX5.out).mono (S' := fun b => b < B0 ∨ KB < b) (fun b hb _ => .inl hb)
      rw [e2, HM2.out] at h; exact h
    rw [← e2]; exact HK5.out
   case rest =>
   obtain ⟨ia, ic, ma, mc, rfl, HBX, HIR, HMR, HKX5⟩ := hcut
   rename World => wA
   clear HI HM HX5 HK5 x0
   obtain ⟨q, hq⟩ : ∃ q, decide ((x.kind = 5 ∨ x.kind = 6) ∧ x.name ∈ Ks) = q := ⟨_, rfl⟩
   have HQ := Lib.hid hq
   have y0 := HKX5.out.c 0 _ rfl
   have y1 := HKX5.out.c 1 _ rfl
   have yf := HKX5.out.fz
   have hkA := HKX5.out.lt
   clear hq
   go_upto_region 16 with fail
   go_cut [58] (fun s58 wx => s58 = .bool q ∧ wx = wA)
   case first =>
    have HAM := Lib.hid (among_any x.name Ks (.slice ua kn uc) wA ((HKV5.out _ HBX.out).mono (fun _ _ _ => trivial)) (by have := HKN.out; omega))
    by_cases h5 : x.kind = 5
    · have d5 : (x.kind == 5) = true := by simp [h5]
      have hq : decide (x.name ∈ Ks) = q := by rw [← HQ.out]; simp [h5]
      rw [hq] at HAM
      clear hq h5
      go_wp2_with fail
      refine HAM.out.mono ?_; rintro e w' ⟨rfl, rfl⟩
      go_wp2_with fail
      go_meet
      exact ⟨rfl, rfl⟩
    have d5 : (x.kind == 5) = false := by simp [h5]
    by_cases h6 : x.kind = 6
    · have d6 : (x.kind == 6) = true := by simp [h6]
      have hq : decide (x.name ∈ Ks) = q := by rw [← HQ.out]; simp [h6]
      rw [hq] at HAM
      clear hq h5 h6
      go_wp2_with fail
      refine HAM.out.mono ?_; rintro e w' ⟨rfl, rfl⟩
      go_wp2_with fail
      go_meet
      exact ⟨rfl, rfl⟩
    have d6 : (x.kind == 6) = false := by simp [h6]
    have hq : q = false := by rw [← HQ.out]; simp [h5, h6]
    subst hq
    clear h5 h6
    go_wp2_with fail
    go_meet
    exact ⟨rfl, rfl⟩
   case rest =>
   obtain ⟨rfl, hwc⟩ := hcut
   rw [hwc]
   clear hwc
   go_upto_if 58 with fail
   go_cut [9] (fun s9 wx => s9 = .slice ia iN ic ∧ Hid (Below KB wO wx) ∧ Hid (Rd (fun b => b ≠ KB) strV wx (.slice ia iN ic) I) ∧ Hid (Rd (fun b => b < B0 ∨ KB < b) strV wx (.slice ma mN mc) M) ∧ Hid (Blk 53 KB #[.int .i64 x.kind, .string ⟨nm.toArray⟩, .int .i64 x.num, .slice ka x.kids.length kc, .slice ma mN mc, .int .i64 x.at_] wx))
   case first =>
    cases q with
    | true =>
     have hq := of_decide_eq_true HQ.out
     have hnm : zB x.name = nm := by rw [← HNM.out]; exact (if_pos hq).symm
     have hadd := fun w => HADD.out x.name w hxnm
     rw [hnm] at hadd
     clear hq hnm
     go_wp2_with fail
     go_meet
     exact ⟨rfl, Lib.hid (HBX.out.setCell (p := ⟨KB, 1, none⟩) (Nat.le_refl KB) _), Lib.hid (HIR.out.kp (kpz 1 (by simp) _)), Lib.hid (HMR.out.kp (kpz 1 (by omega) _)), Lib.hid (HKX5.out.set_ 1 _ _ rfl)⟩
    | false =>
     have hq := of_decide_eq_false HQ.out
     have hnm : x.name = nm := by rw [← HNM.out]; exact (if_neg hq).symm
     have hk1 := HKX5.out
     rw [hnm] at hk1
     have HK1 := Lib.hid hk1
     clear hq hnm hk1
     go_wp2_with fail
     go_meet
     exact ⟨rfl, HBX, HIR, HMR, HK1⟩
   case rest =>
   clear HBX HIR HMR HKX5 y0 y1 yf hkA HQ HNM HADD
   obtain ⟨rfl, HBY, HIY, HMY, HKY⟩ := hcut
   rename World => wB
   have y3 := HKY.out.c 3 _ rfl
   have hkB := HKY.out.lt
   have hszB : KB ≤ wB.heap.size := by omega
   have HKC := Lib.hid (HIH.out B0 I (.slice ka x.kids.length kc) (.slice ia iN ic) wB (by omega) (HKT5.out _ HBY.out) (HIY.out.mono (fun _ _ _ => trivial)) HKX.out HAX.out)
   clear HIY HKX HAX
   go_wp2_with fail
   refine HKC.out.mono ?_; rintro e w18 ⟨hb18, v18, rfl, hO18⟩
   have hT18 := hO18.tree
   have hlo18 : ∀ g, v18.ownBlock = some g → wB.heap.size ≤ g := fun g hg => by obtain ⟨vl6, -, ho6, -⟩ := hO18; exact (ho6.lt g hg).1
   obtain ⟨fo, fl, fc, rfl⟩ : ∃ a b c, v18 = .slice a b c := by obtain ⟨vl6, -, ho6, -⟩ := hO18; obtain ⟨ao, co, h, -⟩ := own_slice ho6; exact ⟨_, _, _, h⟩
   have hk18 := HKY.out.below hb18 HKY.out.lt
   have HT18 := Lib.hid (hT18.mono (S' := fun b => b < B0 ∨ KB < b) (fun b hb _ => by
    rcases hb with (hb | hb) | hb
    · exact .inl hb
    · exact .inr (by omega)
    have := hlo18 b hb; exact .inr (by omega)))
   have HM18 := Lib.hid (HMY.out.below hb18)
   have HB18 := Lib.hid (HBY.out.trans (hb18.mono hszB))
   have z3 := hk18.c 3 _ rfl
   have zf := hk18.fz
   have HK18 := Lib.hid hk18
   have hs18 : wB.heap.size ≤ w18.heap.size := hb18.size
   clear hO18 hT18 hlo18 hb18 hk18 HKC y3
   go_upto_region 19 with fail
   obtain ⟨W19, hw19⟩ : ∃ X, w18.setCell ⟨KB, 3, none⟩ (.slice fo fl fc) = X := ⟨_, rfl⟩
   rw [hw19]
   have hs19 : W19.heap.size = w18.heap.size := by rw [← hw19]; simp [World.setCell]
   have hk19 : Blk 53 KB #[.int .i64 x.kind, .string ⟨nm.toArray⟩, .int .i64 x.num, .slice fo fl fc, .slice ma mN mc, .int .i64 x.at_] W19 := by rw [← hw19]; exact HK18.out.set_ 3 _ _ rfl
   have HT19 := Lib.hid (show Tree (fun b => b < B0 ∨ KB < b) W19 (.slice fo fl fc) (rnL I x.kids) by rw [← hw19]; exact HT18.out.kp (kpz 3 (by omega) _))
   have HM19 := Lib.hid (show Rd (fun b => b < B0 ∨ KB < b) strV W19 (.slice ma mN mc) M by rw [← hw19]; exact HM18.out.kp (kpz 3 (by omega) _))
   have HB19 := Lib.hid (show Below KB wO W19 by rw [← hw19]; exact HB18.out.setCell (p := ⟨KB, 3, none⟩) (Nat.le_refl KB) _)
   have e0 := hk19.c 0 _ rfl
   have e1 := hk19.c 1 _ rfl
   have e2 := hk19.c 2 _ rfl
   have e3 := hk19.c 3 _ rfl
   have e4 := hk19.c 4 _ rfl
   have e5 := hk19.c 5 _ rfl
   have hX20 := alloc_bel W19 (.cells #[.int .i64 x.kind, .string ⟨nm.toArray⟩, .int .i64 x.num, .slice fo fl fc, .slice ma mN mc, .int .i64 x.at_] 53)
   have hb20 := HB19.out.trans (hX20.mono (by have := HB19.out.size; omega))
   obtain ⟨vl, hvl, hrow, hsub⟩ := HO5.out _ hb20
   have hvll : vl.length = k := by have h := congrArg List.length hvl; rw [List.length_map, HTL.out] at h; exact h
   rw [hvll] at hrow
   have HVL := Lib.hid hvl
   have HVLL := Lib.hid hvll
   have HROW := Lib.hid hrow
   have HSUB := Lib.hid hsub
   have HT20 := Lib.hid (HT19.out.bel hX20)
   have HM20 := Lib.hid (HM19.out.below hX20)
   have HB20 := Lib.hid hb20
   have hszw : w.heap.size ≤ W19.heap.size := by omega
   clear hs19 hw19 hk19 hX20 hb20 hvl hvll hrow hsub HT19 HM19 HB19 HT18 HM18 HB18 HK18 z3 zf
   go_wp2_with (at_builtin; refine wpList_append_lies _ rfl _ _ 23 rfl w.heap.size 53 i0 (.agg #[.int .i64 0, .string ⟨#[]⟩, .int .i64 0, .slice none 0 0, .slice none 0 0, .int .i64 0]) 6 88 tsl hi0 hz0 hz1 hz2 rfl (by decide) _ k (flatN vl) rfl HROW.out ⟨W19.heap.size, 0, none⟩ 1 1 [.int .i64 x.kind, .string ⟨nm.toArray⟩, .int .i64 x.num, .slice fo fl fc, .slice ma mN mc, .int .i64 x.at_] rfl rfl (cells6 W19 53 _ _ _ _ _ _) (fun u hu => by simp at hu; rcases hu with rfl | rfl | rfl | rfl | rfl | rfl <;> rfl) (by decide) (by unfold maxLen; omega) (by omega) (by first | omega | (simp only [World.size_alloc]; omega)) _ rfl ?_)
   intro g cap w20 hown20 hg20 hat20 hlt20
   have hsn := own_snoc (n := k) (S := fun b => b < B0 ∨ w.heap.size ≤ b) (x := .mk x.kind nm x.num (rnL I x.kids) M x.at_) (kv := .slice fo fl fc) (nv := .slice ma mN mc) HVLL.out.symm hg20.size HSUB.out (HT20.out.mono (fun b hb _ => ⟨by omega, fun h => by have := HUB.out b h; omega⟩)) (HM20.out.mono (fun b hb _ => ⟨by omega, fun h => by have := HUB.out b h; omega⟩)) hown20 hg20 (by rw [World.size_alloc]; exact hat20)
   rw [HVL.out, ← HRN.out, ← HTK.out] at hsn
   have hbf := (HBR.out.trans (HB20.out.mono (by omega))).grown hg20 (by simp; omega) (fun k hk => (HUB.out k hk).1)
   have HSN := Lib.hid hsn
   have HBF := Lib.hid hbf
   clear hown20 hg20 hat20 hlt20 hsn hbf
   go_wp2_with fail
   exact ⟨⟨k + 1, by simp, by omega, HSN, HBF.out⟩, by simp only [intOf]; omega⟩
 obtain rfl : k = n := by omega
 have hdec : decide ((k : Int) < (k : Int)) = false := by simp
 have hall : l.take k = l := List.take_of_length_le (by rw [HN.out]; exact Nat.le_refl _)
 rw [hall] at hown
 clear hall
 go_wp2_with fail
 go_ret
 exact ⟨hbr, _, rfl, hown.out⟩
theorem rn_all : ∀ (m : Nat) (l : List Nd), cntL l < m → cntL l ≤ 100000 → RnOk l
 | 0, l, h, _ => by omega
 | m + 1, l, h, hm => rn_step l hm (fun y hy => rn_all m y.kids (by have := cnt_mem hy; omega) (by have := cnt_mem hy; omega))
theorem rn_any (l : List Nd) (hm : cntL l ≤ 100000) : RnOk l := rn_all (cntL l + 1) l (by omega) hm
end Rv
end Go.Proofs.YtmmgfifpjifjnaaGreatDoor
namespace Go.Proofs.YtmmgfifpjifjnaaGreatDoor
open Go.RowKit
namespace Tr
open Bs Sm
def AllNOk (l : List Nd) : Prop := ∀ (B0 : Nat) (v : Value) (w : World), B0 ≤ w.heap.size → Tree (fun b => b < B0) w v l → Calls Tryz.prog 16 #[v] w
 (fun e w' => Below w.heap.size w w' ∧ ∃ v' vl, e = .returned v' ∧ (vl : VL).map (·.1) = allL l ∧ w'.ownsRow w.heap.size RT 6 v' vl.length (flatN vl) ∧ (vl = [] → v' = .slice none 0 0) ∧ (∀ u ∈ flatN vl, u.oneCell' = true) ∧ (∀ y ∈ vl, (∃ ka kn kc, y.2.1 = Value.slice ka kn kc) ∧ Rd (fun b => b < B0) strV w' y.2.2 y.1.names))
theorem all_take2 {l : List Nd} {k : Nat} {x : Nd} (hx : l[k]? = some x) : allL (l.take (k + 1)) = allL (l.take k) ++ [x] ++ allL x.kids := by
 rw [take_snoc hx, allL_append, allL_cons, allL_nil]
 simp
theorem flatN_ap2 (a b : VL) : flatN (a ++ b) = flatN a ++ flatN b := by unfold flatN; simp
set_option maxRecDepth 100000 in
set_option maxHeartbeats 3200000 in
theorem ralln_step (l : List Nd) (hcnt : cntL l ≤ 100000) (IH : ∀ y ∈ l, AllNOk y.kids) : AllNOk l := by
 intro B0 v w hB0 hl
 obtain ⟨i0, hi0, hz0, hz1, hz2⟩ := info_parts (show (Tryz.prog.info? 53).map (fun i => (i.zero, i.size, i.bytes)) = some (some (.agg #[.int .i64 0, .string ⟨#[]⟩, .int .i64 0, .slice none 0 0, .slice none 0 0, .int .i64 0]), 6, 88) by kernel_rfl)
 have tsl : Tryz.prog.underlying 23 = some (.slice 53) := by kernel_rfl
 obtain ⟨a, c, rfl, hc, hm⟩ := hl.form
 obtain ⟨n, hn⟩ : ∃ n, l.length = n := ⟨_, rfl⟩
 have HN := Lib.hid hn
 unfold maxLen at hm
 rw [hn] at hl hc ⊢
 have HL := Lib.hid hl
 have hlen : ∀ k, (allL (l.take k)).length ≤ 100000 := fun k => by
  rw [allL_len]
  have h2 := cntL_append (l.take k) (l.drop k)
  rw [List.take_append_drop] at h2
  omega
 have HLE := Lib.hid hlen
 replace IH := Lib.hid IH
 clear hl hn hlen
 go_enter Tryz.func16, Tryz.ntmps16
 go_wp2_with fail
 go_loopw [3, 4] (fun o y wr => ∃ (k : Nat) (vl : VL), y = .int .i64 (k : Int) ∧ k ≤ n ∧ Hid (wr.ownsRow w.heap.size RT 6 o vl.length (flatN vl)) ∧ Hid (vl.map (·.1) = allL (l.take k)) ∧ Hid (vl = [] → o = .slice none 0 0) ∧ Hid (∀ u ∈ flatN vl, u.oneCell' = true) ∧ Hid (Below w.heap.size w wr) ∧ Hid (∀ y ∈ vl, (∃ ka kn kc, y.2.1 = Value.slice ka kn kc) ∧ Rd (fun b => b < B0) strV wr y.2.2 y.1.names)) (fun _ y _ => n - (intOf y).toNat)
 case atStart => exact ⟨0, [], rfl, Nat.zero_le _, Lib.hid (World.ownsRow_nil _ _ _ _), Lib.hid (by rw [List.take_zero, allL_nil]; rfl), Lib.hid (fun _ => rfl), Lib.hid (fun u hu => by cases hu), Lib.hid (Below.refl _ _), Lib.hid (fun y hy => by cases hy)⟩
 obtain ⟨k, vl, rfl, hk, hown, hvl, hnil, hone, hbr, hnm⟩ := hrel
 by_cases hkn : k < n
 · have hdec : decide ((k : Int) < (n : Int)) = true := by simpa using hkn
   have hkw : IntKind.i64.wrap ((k : Int) + 1) = (k : Int) + 1 := IntWalk.i64_in _ (by omega)
   obtain ⟨gb, off, x, ka, kc, na, nc, rfl, hx, hgb, -, hrow, hkt, hnt⟩ := HL.out.nth k hkn
   obtain ⟨c0, c1, c2, c3, c4, c5⟩ := hrow.kp (w' := wr) (fun i => hbr.out.cell (p := ⟨gb, i, none⟩) hgb)
   have HSTEP := Lib.hid (all_take2 hx)
   have HIH := Lib.hid (IH.out x (List.mem_of_getElem? hx))
   have hvll : vl.length ≤ 100000 := by have h1 := HLE.out k; rw [← hvl.out, List.length_map] at h1; exact h1
   have hsz1 : (vl.length + 1) + (allL x.kids).length ≤ 100000 := by
    have h1 := HLE.out (k + 1)
    rw [HSTEP.out, ← hvl.out] at h1
    simp only [List.length_append, List.length_map, List.length_cons, List.length_nil] at h1
    omega
   have HX := Lib.hid (alloc_bel wr (.cells #[.int .i64 x.kind, .string ⟨x.name.toArray⟩, .int .i64 x.num, .slice ka x.kids.length kc, .slice na x.names.length nc, .int .i64 x.at_] 53))
   have HROW := Lib.hid (own_below hown.out HX.out)
   have HKT := Lib.hid hkt
   have HRW := Lib.hid hrow
   have HNT := Lib.hid hnt
   have hwb := hbr.out.size
   have HOWN5 := Lib.hid hown.out.lt
   obtain ⟨W5, hW5⟩ : ∃ W, wr.alloc (.cells #[.int .i64 x.kind, .string ⟨x.name.toArray⟩, .int .i64 x.num, .slice ka x.kids.length kc, .slice na x.names.length nc, .int .i64 x.at_] 53) = W := ⟨_, rfl⟩
   have hc6 := cells6 wr RT (.int .i64 x.kind) (.string ⟨x.name.toArray⟩) (.int .i64 x.num) (.slice ka x.kids.length kc) (.slice na x.names.length nc) (.int .i64 x.at_)
   rw [hW5] at HX HROW
   have hs5 : W5.heap.size = wr.heap.size + 1 := by rw [← hW5]; simp
   have HC6 : Hid (∀ j u, [Value.int .i64 x.kind, .string ⟨x.name.toArray⟩, .int .i64 x.num, .slice ka x.kids.length kc, .slice na x.names.length nc, .int .i64 x.at_][j]? = some u → W5.cell? ((⟨wr.heap.size, 0, none⟩ : Addr).add j) = some u) := Lib.hid (by rw [← hW5]; exact hc6)
   clear hrow hkt hnt hc6
   go_wp2_with (at_builtin; refine wpList_append_lies _ rfl _ _ 23 rfl w.heap.size RT i0 (.agg #[.int .i64 0, .string ⟨#[]⟩, .int .i64 0, .slice none 0 0, .slice none 0 0, .int .i64 0]) 6 88 tsl hi0 hz0 hz1 hz2 rfl (by decide) _ vl.length (flatN vl) rfl HROW.out ⟨wr.heap.size, 0, none⟩ 1 1 [.int .i64 x.kind, .string ⟨x.name.toArray⟩, .int .i64 x.num, .slice ka x.kids.length kc, .slice na x.names.length nc, .int .i64 x.at_] rfl rfl HC6.out (fun u hu => by simp at hu; rcases hu with rfl | rfl | rfl | rfl | rfl | rfl <;> rfl) (by decide) (by unfold maxLen; omega) (by omega) (by omega) _ rfl ?_)
   intro g cap w6 hown6 hgrow6 hat6 hlt6
   have hb6 : Below w.heap.size w w6 := (hbr.out.trans (HX.out.mono hwb)).grown hgrow6 (by have := hbr.out.size; have := HX.out.size; omega) (fun k hk => (HOWN5.out k hk).1)
   obtain ⟨f0, f1, f2, f3, f4, f5⟩ := HRW.out.kp (w' := w6) (fun i => hb6.cell (p := ⟨gb, i, none⟩) hgb)
   have HC := Lib.hid (HIH.out B0 _ w6 (by have := hb6.size; omega) (HKT.out.bel hb6))
   have e6 : flatN vl ++ [.int .i64 x.kind, .string ⟨x.name.toArray⟩, .int .i64 x.num, .slice ka x.kids.length kc, .slice na x.names.length nc, .int .i64 x.at_] = flatN (vl ++ [((x, .slice ka x.kids.length kc, .slice na x.names.length nc) : Nd × Value × Value)]) := by rw [flatN_snoc]; rfl
   rw [e6] at hown6
   have HO6 := Lib.hid hown6
   have HW6 : Hid (wr.heap.size ≤ w6.heap.size) := Lib.hid (by have := hgrow6.size; omega)
   have HB6 := Lib.hid hb6
   have HNE : Hid (∀ u ∈ flatN (vl ++ [((x, .slice ka x.kids.length kc, .slice na x.names.length nc) : Nd × Value × Value)]), u.oneCell' = true) := Lib.hid (by
    rw [← e6]
    intro u hu
    rcases List.mem_append.1 hu with hu | hu
    · exact hone.out u hu
    simp at hu; rcases hu with rfl | rfl | rfl | rfl | rfl | rfl <;> rfl)
   clear hown6 hgrow6 hat6 hb6 c0 c1 c2 c3 c4 c5 e6 hW5
   go_wp2_with fail
   refine HC.out.mono ?_; rintro e w7 ⟨hb7, v7, vl7, rfl, hvl7, hown7, hnil7, hone7, hnm7⟩
   have HB7 := Lib.hid (HB6.out.trans (hb7.mono HB6.out.size))
   have HO7 := Lib.hid (own_below HO6.out hb7)
   have HVL7 := Lib.hid hvl7
   have HW67 : Hid (wr.heap.size ≤ w7.heap.size) := Lib.hid (by have := HW6.out; have := hb7.size; omega)
   have HNE7 := Lib.hid hone7
   have HL7 : Hid (vl7.length = (allL x.kids).length) := Lib.hid (by rw [← hvl7, List.length_map])
   have HNM7 : Hid (∀ y ∈ vl ++ [((x, .slice ka x.kids.length kc, .slice na x.names.length nc) : Nd × Value × Value)] ++ vl7, (∃ ka kn kc, y.2.1 = Value.slice ka kn kc) ∧ Rd (fun b => b < B0) strV w7 y.2.2 y.1.names) := Lib.hid (fun y hy => by
    rcases List.mem_append.1 hy with hy | hy
    · rcases List.mem_append.1 hy with hy | hy
      · refine ⟨(hnm.out y hy).1, (hnm.out y hy).2.kp ⟨by have := HB7.out.size; have := HW67.out; omega, fun b hb hl => by have h1 := HB7.out.block b (by omega); have h2 := hbr.out.block b (by omega); rw [h1, h2]⟩⟩
      obtain rfl := List.mem_singleton.1 hy
      exact ⟨⟨_, _, _, rfl⟩, HNT.out.below HB7.out⟩
    exact hnm7 y hy)
   have HALL : Hid ((vl ++ [((x, .slice ka x.kids.length kc, .slice na x.names.length nc) : Nd × Value × Value)] ++ vl7).map (·.1) = allL (l.take (k + 1))) := Lib.hid (by
    rw [HSTEP.out, ← hvl.out, ← hvl7]; simp)
   by_cases h7 : vl7 = []
   · have hv7 := hnil7 h7
     subst hv7
     subst h7
     clear hb7 hown7 hnil7 hone7 hvl7 f0 f1 f2 f3 f4 f5
     go_wp2_with (at_builtin; refine wpList_append_own_none rfl _ _ 23 rfl w.heap.size RT i0 6 tsl hi0 _ (vl.length + 1) (flatN (vl ++ [((x, .slice ka x.kids.length kc, .slice na x.names.length nc) : Nd × Value × Value)])) rfl HO7.out rfl ?_)
     go_wp2_with fail
     exact ⟨⟨k + 1, vl ++ [((x, .slice ka x.kids.length kc, .slice na x.names.length nc) : Nd × Value × Value)], by simp, by omega, Lib.hid (by have h := HO7.out; rw [List.length_append]; exact h), Lib.hid (by have := HALL.out; simpa using this), Lib.hid (fun h => by simp at h), HNE, HB7, Lib.hid (by have := HNM7.out; simpa using this)⟩, by simp only [intOf]; omega⟩
   have hp7 : 0 < vl7.length := List.length_pos_iff.2 h7
   obtain ⟨g7, cap7, rfl, hg7, hlt7⟩ := hown7.form hp7
   have HC7 : Hid (∀ j u, (flatN vl7)[j]? = some u → w7.cell? ((⟨g7, 0, none⟩ : Addr).add j) = some u) := Lib.hid (fun j u hj => World.ownsRow.cells hown7 (g := g7) rfl j u hj)
   have hs7 := HB7.out.size
   clear hb7 hown7 hnil7 hone7 hvl7 f0 f1 f2 f3 f4 f5 h7
   go_wp2_with (at_builtin; refine wpList_append_lies _ rfl _ _ 23 rfl w.heap.size RT i0 (.agg #[.int .i64 0, .string ⟨#[]⟩, .int .i64 0, .slice none 0 0, .slice none 0 0, .int .i64 0]) 6 88 tsl hi0 hz0 hz1 hz2 rfl (by decide) _ (vl.length + 1) (flatN (vl ++ [((x, .slice ka x.kids.length kc, .slice na x.names.length nc) : Nd × Value × Value)])) rfl HO7.out ⟨g7, 0, none⟩ vl7.length cap7 (flatN vl7) rfl (flatN_len vl7) HC7.out HNE7.out hp7 (by have := HL7.out; unfold maxLen; omega) (by have := HL7.out; omega) (by omega) _ rfl ?_)
   intro g8 cap8 w8 hown8 hgrow8 hat8 hlt8
   have HB8 : Hid (Below w.heap.size w w8) := Lib.hid (HB7.out.grown hgrow8 hs7 (fun k hk => (HO7.out.lt k hk).1))
   rw [← flatN_ap2] at hown8
   have HO8 := Lib.hid hown8
   have HNM8 : Hid (∀ y ∈ vl ++ [((x, .slice ka x.kids.length kc, .slice na x.names.length nc) : Nd × Value × Value)] ++ vl7, (∃ ka kn kc, y.2.1 = Value.slice ka kn kc) ∧ Rd (fun b => b < B0) strV w8 y.2.2 y.1.names) := Lib.hid (fun y hy => ⟨(HNM7.out y hy).1, (HNM7.out y hy).2.kp ⟨hgrow8.size, fun b hb hl => hgrow8.block b hl (fun e => by have := (HO7.out.lt b e.symm).1; omega)⟩⟩)
   clear hown8 hgrow8 hat8 hlt8
   go_wp2_with fail
   exact ⟨⟨k + 1, vl ++ [((x, .slice ka x.kids.length kc, .slice na x.names.length nc) : Nd × Value × Value)] ++ vl7, by simp, by omega, Lib.hid (by have h := HO8.out; rw [List.length_append, List.length_append]; exact h), HALL, Lib.hid (fun h => by simp at h), Lib.hid (fun u hu => by
    rw [flatN_ap2] at hu
    rcases List.mem_append.1 hu with hu | hu
    · exact HNE.out u hu
    exact HNE7.out u hu), HB8, HNM8⟩, by simp only [intOf]; omega⟩
 obtain rfl : k = n := by omega
 have hdec : decide ((k : Int) < (k : Int)) = false := by simp
 have hall : l.take k = l := List.take_of_length_le (by rw [HN.out]; exact Nat.le_refl _)
 rw [hall] at hvl
 clear hall
 go_wp2_with fail
 go_ret
 exact ⟨hbr.out, _, vl, rfl, hvl.out, hown.out, hnil.out, hone.out, hnm.out⟩
theorem ralln_all : ∀ (m : Nat) (l : List Nd), cntL l < m → cntL l ≤ 100000 → AllNOk l
 | 0, l, h, _ => by omega
 | m + 1, l, h, h2 => ralln_step l h2 (fun y hy => ralln_all m y.kids (by have := cnt_mem hy; omega) (by have := cnt_mem hy; omega))
theorem ralln_any (l : List Nd) (h : cntL l ≤ 100000) : AllNOk l := ralln_all (cntL l + 1) l (by omega) h
end Tr
end Go.Proofs.YtmmgfifpjifjnaaGreatDoor
namespace Go.Proofs.YtmmgfifpjifjnaaGreatDoor
open Go.RowKit
namespace Rv
open Bs Sm Tr
set_option maxRecDepth 100000 in
set_option maxHeartbeats 1600000 in
theorem few_own (v : Value) (l : List Bytes) (w : World) (hl : Rd (fun _ => True) strV w v l) :
  Calls Tryz.prog 8 #[v, .int .i64 8] w (fun e w' => Below w.heap.size w w' ∧ ∃ v', e = .returned v' ∧ w'.ownsRow w.heap.size 9 1 v' (l.take 8).length ((l.take 8).map strV)) := by
 obtain ⟨iI, hiI, hI0, hI1, hI2⟩ := info_parts (show (Tryz.prog.info? 9).map (fun i => (i.zero, i.size, i.bytes)) = some (some (.string ⟨#[]⟩), 1, 16) by kernel_rfl)
 have tI : Tryz.prog.underlying 22 = some (.slice 9) := by kernel_rfl
 obtain ⟨a, c, rfl, hlc, hcm⟩ := hl.form
 have hE : (w.alloc (.cells #[] 9)).ownsRow w.heap.size 9 1 (.slice (some ⟨w.heap.size, 0, none⟩) 0 0) 0 [] := World.ownsRow_made (e := 9) (size := 1) w #[] 0 (Nat.le_refl _) (by unfold maxLen; omega) rfl
 have hX : Below w.heap.size w (w.alloc (.cells #[] 9)) := (Below.refl _ w).alloc (Nat.le_refl _) _
 have HE := Lib.hid hE
 have HX := Lib.hid hX
 by_cases h8 : 8 < l.length
 · have hd : decide ((8 : Int) < (l.length : Int)) = true := decide_eq_true (by omega)
   have hi1 : (8 : Int) ≤ (c : Int) := by omega
   have hlen : (l.take 8).length = 8 := by simp; omega
   have HL := Lib.hid (hl.cut 8 (by omega))
   have HLEN := Lib.hid hlen
   clear hE hX hl hlen
   go_enter Tryz.func8, Tryz.ntmps8
   go_wp2_with (at_builtin; refine wpList_rd (S := fun _ => True) (f := strV) (fun _ => rfl) _ ?hw _ _ 22 9 rfl tI iI (.string ⟨#[]⟩) 16 hiI hI0 hI1 hI2 rfl HE.out rfl rfl (HL.out.below HX.out) ?c1 ?c2 ?c3 ?_)
   case c1 => rw [HLEN.out]; unfold maxLen; omega
   case c2 => rw [HLEN.out]; omega
   case c3 => simp
   intro v6 w6 hown6 hg6 hat6
   have hb6 := HX.out.grown hg6 HX.out.size (fun k hk => (HE.out.lt k hk).1)
   have HO := Lib.hid (show w6.ownsRow w.heap.size 9 1 v6 (l.take 8).length ((l.take 8).map strV) by simpa using hown6)
   clear hown6 hg6 hat6
   go_wp2_with fail
   go_ret
   exact ⟨hb6, _, rfl, HO.out⟩
 have hd : decide ((8 : Int) < (l.length : Int)) = false := decide_eq_false (by omega)
 have ht : l.take 8 = l := List.take_of_length_le (by omega)
 rw [ht]
 have HL := Lib.hid hl
 clear hE hX hl ht
 go_enter Tryz.func8, Tryz.ntmps8
 go_wp2_with (at_builtin; refine wpList_rd (S := fun _ => True) (f := strV) (fun _ => rfl) _ ?hv _ _ 22 9 rfl tI iI (.string ⟨#[]⟩) 16 hiI hI0 hI1 hI2 rfl HE.out rfl rfl (HL.out.below HX.out) ?d1 ?d2 ?d3 ?_)
 case d1 => unfold maxLen; omega
 case d2 => omega
 case d3 => simp
 intro v6 w6 hown6 hg6 hat6
 have hb6 := HX.out.grown hg6 HX.out.size (fun k hk => (HE.out.lt k hk).1)
 have HO := Lib.hid (show w6.ownsRow w.heap.size 9 1 v6 l.length (l.map strV) by simpa using hown6)
 clear hown6 hg6 hat6
 go_wp2_with fail
 go_ret
 exact ⟨hb6, _, rfl, HO.out⟩

theorem run_rdk {α : Type} {f : α → Value} {S : Nat → Prop} (hf : ∀ x, (f x).oneCell' = true) {P : Program} {w : World} (t ty e : TypeId) (tsl : P.underlying t = some (.slice e)) (i0 : TypeInfo) (z : Value) (bytes : Nat)
  (h2 : P.info? e = some i0) (h3 : i0.zero = some z) (h4 : i0.size = 1) (h5 : i0.bytes = bytes) (h6 : z.cells.size = 1) {B0 n : Nat} {v xv : Value} {xs : List Value} {l : List α}
  (hd : w.ownsRow B0 e 1 v n xs) (hs : Rd S f w xv l) (b1 : n + l.length ≤ maxLen) (b2 : (n + l.length) * bytes ≤ 140737488355328) (hB : B0 ≤ w.heap.size) :
  ∃ v' w', (Builtin.append_ #[t, t] ty #[v, xv]).run P w = .ok v' w' ∧ w'.ownsRow B0 e 1 v' (n + l.length) (xs ++ l.map f) ∧ w.grownBy w' v.ownBlock ∧ (v'.ownBlock = v.ownBlock ∨ v'.ownBlock = some w.heap.size) ∧ w'.ownsRow B0 e 1 v n xs := by
 obtain ⟨v', w', hr, r1, r2, r3⟩ := run_rd hf t ty e tsl i0 z bytes h2 h3 h4 h5 h6 hd hs b1 b2 hB
 refine ⟨v', w', hr, r1, r2, r3, ?_⟩
 rcases hd.2 with ⟨rfl, hn⟩ | ⟨g, cap, cur, rfl, hb, hg, hnc, hcm, hcs, htake⟩
 · exact ⟨hd.1, .inl ⟨rfl, hn⟩⟩
 obtain ⟨a, c2, rfl, hc, hm, hnone, hcell⟩ := hs
 cases a with
 | none =>
  obtain rfl := hnone rfl
  obtain rfl : l = [] := List.eq_nil_of_length_eq_zero (by omega)
  have hr2 := run_append_owned_none (P := P) (w := w) B0 t ty e i0 1 tsl h2 _ n xs hd
  have hr3 := hr.symm.trans hr2
  cases hr3
  exact hd
 | some ad =>
  have hnews : ∀ j u, (l.map f)[j]? = some u → w.cell? (ad.add j) = some u := fun j u hj => by
   rw [List.getElem?_map] at hj
   obtain ⟨x, hx, rfl⟩ := Option.map_eq_some_iff.1 hj
   have hjl := (List.getElem?_eq_some_iff.1 hx).1
   obtain ⟨b, off, hab, _, _, hcc⟩ := hcell (by omega)
   cases hab
   have e : (⟨b, off, none⟩ : Addr).add j = ⟨b, off + j, none⟩ := by unfold Addr.add; split <;> simp_all
   rw [e]
   exact hcc j x hx
  have h1c : ∀ u ∈ l.map f, u.oneCell' = true := fun u hu => by obtain ⟨x, _, rfl⟩ := List.mem_map.1 hu; exact hf x
  by_cases hroom : n + l.length ≤ cap
  · obtain ⟨w2, hr2, q1, q2⟩ := run_append_own_spare (P := P) w B0 t ty e i0 1 tsl h2 h4 g n cap xs hd ad l.length c2 (l.map f) (by simp) hnews h1c hroom
    have hr3 := hr.symm.trans hr2
    cases hr3
    rcases q1.2 with ⟨e1, -⟩ | ⟨g', cap', cur', hv', hb', hg', hnc', hcm', hcs', htake'⟩
    · cases e1
    cases hv'
    refine ⟨hd.1, .inr ⟨g, cap, cur', rfl, hb', hg', hnc, hcm', hcs', ?_⟩⟩
    have h7 : xs.length = n * 1 := hd.1
    have h8 : (cur'.toList.take ((n + l.length) * 1)).take (n * 1) = (xs ++ l.map f).take (n * 1) := by rw [htake']
    have h9 : (xs ++ l.map f).take (n * 1) = xs := by rw [List.take_append_of_le_length (by omega), List.take_of_length_le (by omega)]
    rw [List.take_take, Nat.min_eq_left (by omega), h9] at h8
    exact h8
  have hr2 := run_append_grow (P := P) w t ty e i0 z tsl h2 h3 ⟨g, 0, none⟩ n cap xs (by rw [h4]; exact hd.1) (fun j u hj => by
   have := World.ownsRow.cells hd (g := g) rfl j u hj
   exact this) ad l.length c2 (l.map f) (by simp [h4]) hnews (by omega) (by unfold maxLen at b1; omega) (growslice_fits (by omega) (by rw [h5]; exact b2))
  have hr3 := hr.symm.trans hr2
  cases hr3
  exact own_below (w := w) hd ((Below.refl _ w).drew.alloc (Nat.le_refl _) _)
end Rv
end Go.Proofs.YtmmgfifpjifjnaaGreatDoor
