/- Package tree, the walk: blocks (printed by gen_trb9.py). -/
import Derived.Test.YtbdgoimbddlcoaaGreatDoorTrB8
set_option linter.unusedVariables false
namespace Go.Proofs.YtbdgoimbddlcoaaGreatDoor
open Go.RowKit
namespace Tr
open Bs Sm
theorem below_drewN {B : Nat} {a w : World} (h : Below B a w) (n : Nat) : Below B a (w.drewN n) := ⟨h.os, h.tape, h.output, h.size, h.block⟩
theorem joinF_tail (x : Bytes) (r : List Bytes) : ∀ k, k ≤ r.length → joinF [32] (fun i => (x :: r).getD i []) (k + 1) = x ++ Lib.joinTail [32] (r.take k)
 | 0, _ => by rw [joinF_succ, joinF_zero]; simp [Lib.joinTail]
 | k + 1, h => by
  have hx := List.getElem?_eq_getElem (show k < r.length by omega)
  rw [joinF_succ, joinF_tail x r k (by omega), Lib.joinTail_take_succ _ _ _ _ hx, if_neg (by omega)]
  simp [List.getD_eq_getElem?_getD, hx]
theorem join_same (l : List Bytes) : Lib.join l [32] = joinF [32] (fun i => l.getD i []) l.length := by
 cases l with
 | nil => rfl
 | cons x r => rw [Lib.join_cons, List.length_cons, joinF_tail x r _ (Nat.le_refl _), List.take_length]
theorem Rd.rest {α : Type} {S : Nat → Prop} {f : α → Value} {w : World} {l : List α} {nb noff n cap : Nat} (h : Rd S f w (.slice (some ⟨nb, noff, none⟩) n cap) l) (k : Nat) (hk : k ≤ n) : Rd S f w (.slice (some ⟨nb, noff + k, none⟩) (n - k) (cap - k)) (l.drop k) := by
 obtain ⟨a', cap', h1, h2, h3, h5, h4⟩ := h
 cases h1
 have e : (l.drop k).length = l.length - k := List.length_drop
 refine ⟨_, cap - k, by rw [e], by omega, by omega, (fun h => by cases h), fun hl => ?_⟩
 rw [e] at hl
 obtain ⟨b, off, k1, k0, k2, k3⟩ := h4 (by omega)
 cases k1
 refine ⟨nb, noff + k, rfl, k0, k2, fun i x hx => ?_⟩
 rw [List.getElem?_drop] at hx
 have := k3 _ x hx
 rw [← Nat.add_assoc] at this
 exact this
theorem Rd.none_ {α : Type} {S : Nat → Prop} {f : α → Value} {w : World} {l : List α} (hl : l.length = 0) (a : Option Addr) (c : Nat) (h : a = none → c = 0) (hm : c ≤ maxLen) : Rd S f w (.slice a 0 c) l :=
 ⟨a, c, by rw [hl], by omega, hm, h, fun h => by omega⟩
/-- A slice of texts put together. -/
theorem Join_any {S : Nat → Prop} (a : Option Addr) (c : Nat) (l : List Bytes) (w : World) (h : Rd S strV w (.slice a l.length c) l) (hb : (joinF [32] (fun i => l.getD i []) l.length).length ≤ 140737488355328) (hlc : l.length ≤ 140737488355328) :
  Calls Tryz.prog 43 #[.slice a l.length c, .string ⟨#[32]⟩] w (Back (.string ⟨(joinF [32] (fun i => l.getD i []) l.length).toArray⟩) w) := by
 obtain ⟨a', c', h1, h2, h3, h5, h4⟩ := h
 cases h1
 by_cases h0 : l.length = 0
 · have h6 := Tryz.strings_Join_none a c ⟨#[32]⟩ w
   obtain rfl : l = [] := List.eq_nil_of_length_eq_zero h0
   refine h6.mono ?_
   rintro e w' ⟨rfl, rfl⟩
   exact ⟨rfl, Below.refl _ _⟩
 · obtain ⟨b, off, rfl, k0, k2, k3⟩ := h4 (by omega)
   have e1 : (l.map (fun s => (⟨s.toArray⟩ : ByteArray))).length = l.length := List.length_map ..
   have e2 : (l.map (fun s => (⟨s.toArray⟩ : ByteArray))).map (·.data.toList) = l := by
    rw [List.map_map]
    have : ((fun (x : ByteArray) => x.data.toList) ∘ fun s : Bytes => (⟨s.toArray⟩ : ByteArray)) = id := by funext s; rfl
    rw [this, List.map_id]
   have h6 := Tryz.strings_Join b off c (l.map (fun s => (⟨s.toArray⟩ : ByteArray))) ⟨#[32]⟩ w (fun j x hx => by
    rw [List.getElem?_map] at hx
    cases hj : l[j]? with
    | none => rw [hj] at hx; cases hx
    | some s => rw [hj] at hx; cases hx; exact k3 j s hj) k2 (by rw [e1]; exact hlc) (by rw [e1]; exact h2) (by rw [e2]; show (Lib.join l [32]).length ≤ _; rw [join_same]; exact hb)
   rw [e1, e2] at h6
   refine h6.mono ?_
   rintro e w' ⟨rfl, hb'⟩
   refine ⟨?_, hb'⟩
   show Ending.returned (.string ⟨(Lib.join l [32]).toArray⟩) = _
   rw [join_same]
section
variable {B b : Nat} {x : Nd}
set_option maxRecDepth 100000 in
set_option maxHeartbeats 3200000 in
theorem block_any (hK : x.kind = 9) (hN : ∀ y ∈ x.kids, NodeOk B b y) (h0 : 0 ≤ x.num) (h1 : x.num ≤ (x.names.length : Int)) (hnl : x.names.length ≤ 1000000)
  (acc : Bytes) (kv nv : Value) (w : World) (hI : Lib.IsBuilder OT U8 B b (Lib.byteCells acc) w) (hB : B ≤ w.heap.size) (hE : Env B w) (hk : Tree (fun b => b < B) w kv x.kids) (hn : Rd (fun b => b < B) strV w nv x.names) (hlen : acc.length + (blockT txt x).length ≤ 140737488355328) :
  Calls Tryz.prog 142 #[.pointer (some ⟨b, 0, none⟩), ndV x kv nv] w (Wr B b acc (blockT txt x) w) := by
 obtain ⟨ka, kc, rfl, hkc, hkm⟩ := hk.form
 obtain ⟨na, nc, rfl, hnc, hnm2⟩ := hn.form
 unfold maxLen at hkm hnm2
 obtain ⟨p, hp⟩ : ∃ p : Nat, x.num = (p : Int) := ⟨x.num.toNat, by omega⟩
 obtain ⟨n, hnn⟩ : ∃ n, x.names.length = n := ⟨_, rfl⟩
 obtain ⟨kl, hkl⟩ : ∃ n, x.kids.length = n := ⟨_, rfl⟩
 obtain ⟨m, hm⟩ : ∃ m, n - p = m := ⟨_, rfl⟩
 have hpn : p ≤ n := by omega
 have hnum : x.num.toNat = p := by omega
 obtain ⟨Gf, hG⟩ : ∃ g : Nat → Bytes, g = fun i => [58] ++ (x.names.getD i [] ++ [32]) := ⟨_, rfl⟩
 obtain ⟨S, hS⟩ : ∃ s, statsT txt x.kids = s := ⟨_, rfl⟩
 obtain ⟨L2, hL2⟩ : ∃ l, x.names.drop p = l := ⟨_, rfl⟩
 have hl2 : L2.length = m := by rw [← hL2, List.length_drop, hnn, hm]
 obtain ⟨J, hJ⟩ : ∃ j, joinF [32] (fun i => L2.getD i []) L2.length = j := ⟨_, rfl⟩
 obtain ⟨V, hV⟩ : ∃ v, [124, 32] ++ (J ++ [32, 124, 32]) = v := ⟨_, rfl⟩
 have hbt : blockT txt x = [91] ++ (joinF [] Gf p ++ ((if 0 < p then ([124, 32] : Bytes) else []) ++ ((if 0 < m then V else []) ++ (S ++ [93])))) := by
  unfold blockT
  rw [hnum, hS, hL2, hJ, hV, hG, hnn, hp]
  have a1 : (if (0 : Int) < (p : Int) then ([124, 32] : Bytes) else []) = if 0 < p then [124, 32] else [] := by
   by_cases h : 0 < p
   · rw [if_pos h, if_pos (by omega)]
   · rw [if_neg h, if_neg (by omega)]
  have a2 : (if (p : Int) < (n : Int) then V else []) = if 0 < m then V else [] := by
   by_cases h : 0 < m
   · rw [if_pos h, if_pos (by omega)]
   · rw [if_neg h, if_neg (by omega)]
  rw [a1, a2]
 rw [hbt] at hlen
 obtain ⟨TT, hTT⟩ : ∃ t, blockT txt x = t := ⟨_, rfl⟩
 rw [hTT] at hbt ⊢
 have HTT := Lib.hid hbt
 clear hTT
 have HS := fun (acc2 : Bytes) (w' : World) (h : St B b acc2 w w') (hl : acc2.length + S.length ≤ 140737488355328) => (show Calls Tryz.prog 44 #[.pointer (some ⟨b, 0, none⟩), .slice ka kl kc, .string ⟨#[46, 32]⟩] w' (Wr B b acc2 S w') from (by
  have h2 := stats_any (acc := acc2) (w := w') x.kids [46, 32] _ hN h.isb h.siz (h.env hE) (h.tree hk) (by rw [← hS] at hl; exact hl)
  rw [hkl] at h2
  rw [← hS]
  unfold statsT
  rw [hkl]
  exact h2))
 have hJL : 0 < m → J.length ≤ 140737488355328 := fun h => by
  rw [if_pos h, ← hV] at hlen
  simp only [List.length_append] at hlen
  omega
 unfold ndV
 rw [hnn, hkl, hK, hp]
 rw [hnn] at hn hnc
 have HX0 := Lib.hid (alloc_bel w (.cells #[.int .i64 9, .string ⟨x.name.toArray⟩, .int .i64 (p : Int), .slice ka kl kc, .slice na n nc, .int .i64 x.at_] 79))
 have HBK0 := Lib.hid (Blk.made (T := 79) (cs := #[.int .i64 9, .string ⟨x.name.toArray⟩, .int .i64 (p : Int), .slice ka kl kc, .slice na n nc, .int .i64 x.at_]) w)
 have HST0 := Lib.hid (St.start hI hB)
 have HE := Lib.hid hE
 have HNT := Lib.hid hn
 replace HS := Lib.hid HS
 have HLEN := Lib.hid hlen
 have HL2 := Lib.hid hl2
 have HJE := Lib.hid hJ
 have HJL := Lib.hid hJL
 have HV := Lib.hid hV
 have HG := Lib.hid hG
 have HD := Lib.hid hL2
 have HNN := Lib.hid hnn
 have HMS : Hid (m = n - p) := Lib.hid hm.symm
 clear hI hE hk hn hlen hS hl2 hJ hV hG hL2 hnn hbt hN hK hp hkl hm hJL h0 h1 hnum
 have d1 : decide ((0 : Int) ≤ (p : Int)) = true := decide_eq_true (by omega)
 have d2 : decide ((p : Int) ≤ (n : Int)) = true := decide_eq_true (by omega)
 go_enter Tryz.func142, Tryz.ntmps142
 go_upto_region 1 with fail
 go_cut [4, 5] (fun s4 s5 wx => ∃ (pa : Option Addr) (pc : Nat) (va : Option Addr) (vc : Nat), s4 = .slice pa p pc ∧ s5 = .slice va m vc ∧ Rd (fun b => b < B) strV w (.slice pa p pc) (x.names.take p) ∧ Rd (fun b => b < B) strV w (.slice va m vc) (x.names.drop p) ∧ ∃ q, wx = (w.alloc (.cells #[.int .i64 9, .string ⟨x.name.toArray⟩, .int .i64 (p : Int), .slice ka kl kc, .slice na n nc, .int .i64 x.at_] 79)).drewN q)
 case first =>
  by_cases hz : n = 0
  · have hp0 : p = 0 := by omega
    have hm0 : m = 0 := by have := HMS.out; omega
    have hncz : na = none → nc = 0 := by
     obtain ⟨a', c', e1, _, _, e2, _⟩ := HNT.out
     obtain ⟨rfl, _, rfl⟩ := Value.slice.inj e1
     exact e2
    have HP : Hid (∀ (S : Nat → Prop) (a : Option Addr) (c : Nat), (a = none → c = 0) → c ≤ 2 ^ 63 - 1 → Rd S strV w (.slice a p c) (x.names.take p) ∧ Rd S strV w (.slice a m c) (x.names.drop p)) := Lib.hid (fun S a c h1 h2 => by
     rw [hp0, hm0]
     exact ⟨Rd.none_ (by simp) _ _ h1 (by unfold maxLen; omega), Rd.none_ (by rw [List.drop_zero, HNN.out, hz]) _ _ h1 (by unfold maxLen; omega)⟩)
    have HM : Hid (n - p = m) := Lib.hid HMS.out.symm
    cases na with
    | none =>
     obtain rfl := hncz rfl
     clear hz hp0 hm0
     go_quiet (fail)
     go_wp2_with fail
     go_meet
     exact ⟨_, _, _, _, rfl, by rw [← HM.out], (HP.out _ _ _ (fun _ => by first | rfl | omega) (by omega)).1, (HP.out _ _ _ (fun _ => by first | rfl | omega) (by omega)).2, _, rfl⟩
    | some ad =>
     obtain ⟨nb, noff, ne⟩ := ad
     clear hz hp0 hm0
     go_quiet (fail)
     all_goals go_wp2_with fail
     · rename_i h
       subst h
       go_meet
       exact ⟨_, _, _, _, rfl, by rw [← HM.out], (HP.out _ _ _ (fun h => by cases h) (by omega)).1, (HP.out _ _ _ (fun h => by cases h) (by omega)).2, _, rfl⟩
     · go_meet
       exact ⟨_, _, _, _, rfl, by rw [← HM.out], (HP.out _ _ _ (fun h => by cases h) (by omega)).1, (HP.out _ _ _ (fun h => by cases h) (by omega)).2, _, rfl⟩
  · obtain ⟨nb, noff, hna⟩ : ∃ nb noff, na = some ⟨nb, noff, none⟩ := by
     obtain ⟨a', c', e1, _, _, _, e2⟩ := HNT.out
     obtain ⟨rfl, _, rfl⟩ := Value.slice.inj e1
     obtain ⟨nb, noff, e, _⟩ := e2 (by rw [HNN.out]; omega)
     exact ⟨nb, noff, e⟩
    subst hna
    have HT1 := Lib.hid (HNT.out.cut p hpn)
    have HT2 := Lib.hid (HNT.out.rest p hpn)
    rw [← HMS.out] at HT2
    have HM := HMS
    go_quiet (fail)
    all_goals go_wp2_with fail
    · rename_i h
      subst h
      go_meet
      have hm0 : m = 0 := by have := HM.out; omega
      exact ⟨some ⟨nb, noff, none⟩, nc, some ⟨nb, noff, none⟩, 0, rfl, by rw [HM.out], HT1.out, by rw [hm0]; exact Rd.none_ (by rw [List.length_drop, HNN.out]; have := HM.out; omega) _ _ (fun h => by cases h) (by unfold maxLen; omega), _, rfl⟩
    · go_meet
      exact ⟨_, _, _, _, rfl, by rw [HM.out], HT1.out, HT2.out, _, rfl⟩
 case rest =>
 obtain ⟨pa, pc, va, vc, rfl, rfl, hRP, hRV, q, hwc⟩ := hcut
 have HRP := Lib.hid hRP
 have HST1 : Hid (St B b acc w wc) := Lib.hid (by rw [hwc]; exact (HST0.out.go HX0.out).go (below_drewN (Below.refl _ _) q))
 have HBK1 : Hid (Blk 79 w.heap.size #[.int .i64 9, .string ⟨x.name.toArray⟩, .int .i64 (p : Int), .slice ka kl kc, .slice na n nc, .int .i64 x.at_] wc) := Lib.hid (by rw [hwc]; exact HBK0.out)
 have HJ : Hid (0 < m → ∀ w', Below B w w' → Calls Tryz.prog 43 #[.slice va m vc, .string ⟨#[32]⟩] w' (Back (.string ⟨J.toArray⟩) w')) := Lib.hid (fun h w' hb => by
  rw [HD.out] at hRV
  have hl := HL2.out
  have h2 := Join_any va vc L2 w' (by rw [hl]; exact hRV.kp (Kp.lt hb)) (by rw [HJE.out]; exact HJL.out h) (by rw [hl]; have := HNN.out; have := HMS.out; omega)
  rw [HJE.out, hl] at h2
  exact h2)
 have HPL : Hid (∀ i, i < p → ∃ s, (x.names.take p)[i]? = some s ∧ Gf i = [58] ++ (s ++ [32])) := Lib.hid (fun i hi => by
  have hx := List.getElem?_eq_getElem (show i < x.names.length by rw [HNN.out]; omega)
  refine ⟨_, by rw [List.getElem?_take, if_pos hi]; exact hx, ?_⟩
  rw [HG.out]
  simp only [List.getD_eq_getElem?_getD, hx, Option.getD_some])
 clear hwc hRP hRV HX0 HBK0 HST0
 go_wp2_with fail
 refine (put1 [91] HST1.out.isb (by have hL := HLEN.out; simp only [List.length_append, List.length_cons, List.length_nil] at hL ⊢; omega) HST1.out.siz).mono ?_; rintro e w3 hW3
 obtain rfl := hW3.1
 have HST3 : Hid (St B b (acc ++ ([91] ++ joinF [] Gf 0)) w w3) := Lib.hid (by
  have h := HST1.out.step hW3
  rw [joinF_zero]; simpa using h)
 have hnb := isb_blk HST1.out.isb HBK1.out (by decide)
 have HBK := Lib.hid (hW3.2.2.2.blk HBK1.out hnb (by decide))
 clear hW3 HBK1 HST1
 go_wp2_with fail
 go_loopw [23, 7] (fun y _ wr => ∃ k : Nat, y = .int .i64 (k : Int) ∧ k ≤ p ∧ Hid (St B b (acc ++ ([91] ++ joinF [] Gf k)) w wr) ∧ Hid (KeepT b U8 w3 wr)) (fun y _ _ => p - (intOf y).toNat)
 case atStart => exact ⟨0, rfl, Nat.zero_le _, HST3, Lib.hid (KeepT.refl _ _ _)⟩
 case round =>
  obtain ⟨k, rfl, hk, hst, hkp⟩ := hrel
  by_cases hkn : k < p
  · have hdec : decide ((k : Int) < (p : Int)) = true := by simpa using hkn
    have hkw : IntKind.i64.wrap ((k : Int) + 1) = (k : Int) + 1 := IntWalk.i64_in _ (by omega)
    obtain ⟨s, hs, hGs⟩ := HPL.out k hkn
    obtain ⟨gb, off, s', rfl, hs', hgb, hcx⟩ := (HRP.out.kp (Kp.lt hst.out.bel)).at_ k hkn
    rw [hs] at hs'
    cases hs'
    have hstep : joinF [] Gf (k + 1) = joinF [] Gf k ++ ([58] ++ (s ++ [32])) := by rw [joinF_succ, hGs]; split <;> rfl
    have hle : (joinF [] Gf (k + 1)).length ≤ (joinF [] Gf p).length := joinF_le _ _ (by omega)
    rw [hstep] at hle
    simp only [List.length_append, List.length_cons, List.length_nil] at hle
    have hL := HLEN.out
    have HSTEP := Lib.hid hstep
    clear hs hGs hstep
    unfold strV at hcx
    go_wp2_with fail
    refine (put3 [58] s [32] hst.out.isb (by simp only [List.length_append, List.length_cons, List.length_nil] at hL ⊢; omega) hst.out.siz).mono ?_; rintro e w4 hW4
    obtain rfl := hW4.1
    have HST4 : Hid (St B b (acc ++ ([91] ++ joinF [] Gf (k + 1))) w w4) := Lib.hid (by
     have h := hst.out.step hW4
     rw [HSTEP.out]
     simpa using h)
    have HK4 := Lib.hid (hkp.out.trans hW4.2.2.2)
    clear hW4 hcx
    go_wp2_with fail
    exact ⟨⟨k + 1, by simp, by omega, HST4, HK4⟩, by simp only [intOf]; omega⟩
  · obtain rfl : k = p := by omega
    have hdec : decide ((k : Int) < (k : Int)) = false := by simp
    obtain ⟨p, hpk⟩ : ∃ p, k = p := ⟨_, rfl⟩
    subst hpk
    have hL := HLEN.out
    by_cases hp0 : 0 < k
    · by_cases hv0 : 0 < m
      · skip
        have hpd : decide ((0 : Int) < (k : Int)) = true := decide_eq_true (by omega)
        have hpdN : decide (0 < k) = true := decide_eq_true (by omega)
        have hvd : decide ((0 : Int) < (m : Int)) = true := decide_eq_true (by omega)
        have hvdN : decide (0 < m) = true := decide_eq_true (by omega)
        rw [if_pos hp0, if_pos hv0] at hL
        have HF : Hid ((if 0 < k then ([124, 32] : Bytes) else []) ++ ((if 0 < m then V else []) ++ (S ++ [93])) = [124, 32] ++ (V ++ (S ++ [93]))) := Lib.hid (by rw [if_pos hp0, if_pos hv0])
        clear hp0
        go_wp2_with fail
        refine (put1 [124, 32] hst.out.isb (by simp only [List.length_append, List.length_cons, List.length_nil] at hL ⊢; omega) hst.out.siz).mono ?_; rintro e w4 hW4
        obtain rfl := hW4.1
        have HST4 := Lib.hid (hst.out.step hW4)
        have HK4 := Lib.hid (hkp.out.trans hW4.2.2.2)
        clear hW4
        go_wp2_with fail
        refine (HJ.out hv0 w4 HST4.out.bel).mono ?_; rintro e w5 ⟨rfl, hb5⟩
        have HST5 := Lib.hid (HST4.out.go hb5)
        have HK5 := Lib.hid (HK4.out.below hb5)
        clear hb5 hv0
        go_wp2_with fail
        refine (put3 [124, 32] J [32, 124, 32] HST5.out.isb (by rw [← HV.out] at hL; simp only [List.length_append, List.length_cons, List.length_nil] at hL ⊢; omega) HST5.out.siz).mono ?_; rintro e w6 hW6
        obtain rfl := hW6.1
        have HST6 := Lib.hid (HST5.out.step hW6)
        have HK6 := Lib.hid (HK5.out.trans hW6.2.2.2)
        clear hW6
        have c3 := (HK6.out.blk HBK.out hnb (by decide)).c 3 _ rfl
        go_wp2_with fail
        refine (HS.out _ _ HST6.out (by rw [← HV.out] at hL; simp only [List.length_append, List.length_cons, List.length_nil] at hL ⊢; omega)).mono ?_; rintro e w7 hW7
        obtain rfl := hW7.1
        have HST7 := Lib.hid (HST6.out.step hW7)
        clear hW7 c3
        go_wp2_with fail
        refine (put1 [93] HST7.out.isb (by rw [← HV.out] at hL; simp only [List.length_append, List.length_cons, List.length_nil] at hL ⊢; omega) HST7.out.siz).mono ?_; rintro e w8 hW8
        obtain rfl := hW8.1
        have HST8 := Lib.hid (HST7.out.step hW8)
        clear hW8
        go_wp2_with fail
        go_end0
        exact HST8.out.done' (by rw [HTT.out, HF.out]; rw [← HV.out]; simp [List.append_assoc])
      · skip
        have hpd : decide ((0 : Int) < (k : Int)) = true := decide_eq_true (by omega)
        have hpdN : decide (0 < k) = true := decide_eq_true (by omega)
        have hvd : decide ((0 : Int) < (m : Int)) = false := decide_eq_false (by omega)
        have hvdN : decide (0 < m) = false := decide_eq_false (by omega)
        rw [if_pos hp0, if_neg hv0] at hL
        have HF : Hid ((if 0 < k then ([124, 32] : Bytes) else []) ++ ((if 0 < m then V else []) ++ (S ++ [93])) = [124, 32] ++ ([] ++ (S ++ [93]))) := Lib.hid (by rw [if_pos hp0, if_neg hv0])
        clear hp0
        clear hv0
        go_wp2_with fail
        refine (put1 [124, 32] hst.out.isb (by simp only [List.length_append, List.length_cons, List.length_nil] at hL ⊢; omega) hst.out.siz).mono ?_; rintro e w4 hW4
        obtain rfl := hW4.1
        have HST4 := Lib.hid (hst.out.step hW4)
        have HK4 := Lib.hid (hkp.out.trans hW4.2.2.2)
        clear hW4
        have c3 := (HK4.out.blk HBK.out hnb (by decide)).c 3 _ rfl
        go_wp2_with fail
        refine (HS.out _ _ HST4.out (by simp only [List.length_append, List.length_cons, List.length_nil] at hL ⊢; omega)).mono ?_; rintro e w7 hW7
        obtain rfl := hW7.1
        have HST7 := Lib.hid (HST4.out.step hW7)
        clear hW7 c3
        go_wp2_with fail
        refine (put1 [93] HST7.out.isb (by simp only [List.length_append, List.length_cons, List.length_nil] at hL ⊢; omega) HST7.out.siz).mono ?_; rintro e w8 hW8
        obtain rfl := hW8.1
        have HST8 := Lib.hid (HST7.out.step hW8)
        clear hW8
        go_wp2_with fail
        go_end0
        exact HST8.out.done' (by rw [HTT.out, HF.out]; simp [List.append_assoc])
    · by_cases hv0 : 0 < m
      · skip
        have hpd : decide ((0 : Int) < (k : Int)) = false := decide_eq_false (by omega)
        have hpdN : decide (0 < k) = false := decide_eq_false (by omega)
        have hvd : decide ((0 : Int) < (m : Int)) = true := decide_eq_true (by omega)
        have hvdN : decide (0 < m) = true := decide_eq_true (by omega)
        rw [if_neg hp0, if_pos hv0] at hL
        have HF : Hid ((if 0 < k then ([124, 32] : Bytes) else []) ++ ((if 0 < m then V else []) ++ (S ++ [93])) = [] ++ (V ++ (S ++ [93]))) := Lib.hid (by rw [if_neg hp0, if_pos hv0])
        clear hp0
        go_wp2_with fail
        refine (HJ.out hv0 wr hst.out.bel).mono ?_; rintro e w5 ⟨rfl, hb5⟩
        have HST5 := Lib.hid (hst.out.go hb5)
        have HK5 := Lib.hid (hkp.out.below hb5)
        clear hb5 hv0
        go_wp2_with fail
        refine (put3 [124, 32] J [32, 124, 32] HST5.out.isb (by rw [← HV.out] at hL; simp only [List.length_append, List.length_cons, List.length_nil] at hL ⊢; omega) HST5.out.siz).mono ?_; rintro e w6 hW6
        obtain rfl := hW6.1
        have HST6 := Lib.hid (HST5.out.step hW6)
        have HK6 := Lib.hid (HK5.out.trans hW6.2.2.2)
        clear hW6
        have c3 := (HK6.out.blk HBK.out hnb (by decide)).c 3 _ rfl
        go_wp2_with fail
        refine (HS.out _ _ HST6.out (by rw [← HV.out] at hL; simp only [List.length_append, List.length_cons, List.length_nil] at hL ⊢; omega)).mono ?_; rintro e w7 hW7
        obtain rfl := hW7.1
        have HST7 := Lib.hid (HST6.out.step hW7)
        clear hW7 c3
        go_wp2_with fail
        refine (put1 [93] HST7.out.isb (by rw [← HV.out] at hL; simp only [List.length_append, List.length_cons, List.length_nil] at hL ⊢; omega) HST7.out.siz).mono ?_; rintro e w8 hW8
        obtain rfl := hW8.1
        have HST8 := Lib.hid (HST7.out.step hW8)
        clear hW8
        go_wp2_with fail
        go_end0
        exact HST8.out.done' (by rw [HTT.out, HF.out]; rw [← HV.out]; simp [List.append_assoc])
      · skip
        have hpd : decide ((0 : Int) < (k : Int)) = false := decide_eq_false (by omega)
        have hpdN : decide (0 < k) = false := decide_eq_false (by omega)
        have hvd : decide ((0 : Int) < (m : Int)) = false := decide_eq_false (by omega)
        have hvdN : decide (0 < m) = false := decide_eq_false (by omega)
        rw [if_neg hp0, if_neg hv0] at hL
        have HF : Hid ((if 0 < k then ([124, 32] : Bytes) else []) ++ ((if 0 < m then V else []) ++ (S ++ [93])) = [] ++ ([] ++ (S ++ [93]))) := Lib.hid (by rw [if_neg hp0, if_neg hv0])
        clear hp0
        clear hv0
        have c3 := (hkp.out.blk HBK.out hnb (by decide)).c 3 _ rfl
        go_wp2_with fail
        refine (HS.out _ _ hst.out (by simp only [List.length_append, List.length_cons, List.length_nil] at hL ⊢; omega)).mono ?_; rintro e w7 hW7
        obtain rfl := hW7.1
        have HST7 := Lib.hid (hst.out.step hW7)
        clear hW7 c3
        go_wp2_with fail
        refine (put1 [93] HST7.out.isb (by simp only [List.length_append, List.length_cons, List.length_nil] at hL ⊢; omega) HST7.out.siz).mono ?_; rintro e w8 hW8
        obtain rfl := hW8.1
        have HST8 := Lib.hid (HST7.out.step hW8)
        clear hW8
        go_wp2_with fail
        go_end0
        exact HST8.out.done' (by rw [HTT.out, HF.out]; simp [List.append_assoc])

set_option maxRecDepth 100000 in
set_option maxHeartbeats 1000000 in
theorem node9 (hK : x.kind = 9) (hN : ∀ y ∈ x.kids, NodeOk B b y) (h0 : 0 ≤ x.num) (h1 : x.num ≤ (x.names.length : Int)) (hnl : x.names.length ≤ 1000000) : NodeOk B b x := by
 intro acc kv nv w hI hB hE hk hn hlen
 have htx : (txt x).1 = blockT txt x := by rw [txt_eq]; simp [nodeT, hK]
 rw [htx] at hlen ⊢
 obtain ⟨ka, kc, rfl, hkc, hkm⟩ := hk.form
 obtain ⟨na, nc, rfl, hnc, hnm2⟩ := hn.form
 unfold maxLen at hkm hnm2
 have HX := Lib.hid (alloc_bel w (.cells #[.int .i64 9, .string ⟨x.name.toArray⟩, .int .i64 x.num, .slice ka x.kids.length kc, .slice na x.names.length nc, .int .i64 x.at_] 79))
 have HBK := Lib.hid (Blk.made (T := 79) (cs := #[.int .i64 9, .string ⟨x.name.toArray⟩, .int .i64 x.num, .slice ka x.kids.length kc, .slice na x.names.length nc, .int .i64 x.at_]) w)
 have HST0 := Lib.hid (St.start hI hB)
 have HE := Lib.hid hE
 have HKT := Lib.hid hk
 have HNT := Lib.hid hn
 have HC := fun (acc2 : Bytes) (w' : World) (h : St B b acc2 w w') (hl : acc2.length + (blockT txt x).length ≤ 140737488355328) => block_any hK hN h0 h1 hnl acc2 _ _ w' h.isb h.siz (h.env hE) (h.tree hk) (h.rd hn) hl
 obtain ⟨T, hT⟩ : ∃ T, blockT txt x = T := ⟨_, rfl⟩
 rw [hT] at HC hlen ⊢
 unfold ndV at HC ⊢
 rw [hK] at HC ⊢
 replace HC := Lib.hid HC
 clear hI hE hk hn htx hK hT hN h0 h1
 go_enter Tryz.func84, Tryz.ntmps84
 go_wp2_with fail
 have HST1 := Lib.hid (HST0.out.go HX.out)
 refine (HC.out _ _ HST1.out hlen).mono ?_; rintro e w2 hW2
 obtain rfl := hW2.1
 have HST3 := Lib.hid (HST1.out.step hW2)
 clear hW2
 go_wp2_with fail
 go_end0
 exact HST3.out.done
end
end Tr
end Go.Proofs.YtbdgoimbddlcoaaGreatDoor
