/- The law's Few. -/
import Derived.Test.YtfbhokdcnjekiaaGreatDoorTrOwn
import Derived.Deep.AppendLies
set_option linter.unusedVariables false
namespace Go.Proofs.YtfbhokdcnjekiaaGreatDoor
open Go.RowKit
namespace Tr
open Bs Sm
/-- A text's first bytes. -/
theorem cut_str (l : Bytes) (k : Nat) : (⟨l.toArray⟩ : ByteArray).extract 0 k = ⟨(l.take k).toArray⟩ := by
 apply ByteArray.ext
 simp
theorem cells6 (W : World) (T : TypeId) (v0 v1 v2 v3 v4 v5 : Value) : ∀ j u, [v0, v1, v2, v3, v4, v5][j]? = some u → (W.alloc (.cells #[v0, v1, v2, v3, v4, v5] T)).cell? ((⟨W.heap.size, 0, none⟩ : Addr).add j) = some u := by
 intro j u hj
 match j, hj with
 | 0, hj => simp at hj; subst hj; simp [Addr.add]
 | 1, hj => simp at hj; subst hj; simp [Addr.add]
 | 2, hj => simp at hj; subst hj; simp [Addr.add]
 | 3, hj => simp at hj; subst hj; simp [Addr.add]
 | 4, hj => simp at hj; subst hj; simp [Addr.add]
 | 5, hj => simp at hj; subst hj; simp [Addr.add]
 | n + 6, hj => simp at hj
abbrev RT : Nat := 45
def FewOk (B0 kn : Nat) (l : List Nd) : Prop :=
 ∀ (v : Value) (deep n : Nat) (w : World), deep ≤ 60 → n ≤ 200 → B0 ≤ kn → Blk 3 kn #[.int .i64 (n : Int)] w → Tree (fun b => b < B0) w v l →
  Calls Tryz.prog 23 #[v, .pointer (some ⟨kn, 0, none⟩), .int .i64 (deep : Int)] w (fun e w' => ∃ v', e = .returned v' ∧ OwnT RT w.heap.size (fun b => b < B0 ∨ w.heap.size ≤ b) w' v' (fewL deep n l).1 ∧
   Blk 3 kn #[.int .i64 ((fewL deep n l).2 : Int)] w' ∧ But (fun b => b = kn) w w')
set_option maxRecDepth 100000 in
set_option maxHeartbeats 3200000 in
theorem few_step (B0 kn : Nat) (l : List Nd) (IH : ∀ y ∈ l, FewOk B0 kn y.kids) : FewOk B0 kn l := by
 intro v deep n0 w hdeep hn0 hB0 hk hl
 obtain ⟨i0, hi0, hz0, hz1, hz2⟩ := info_parts (show (Tryz.prog.info? 45).map (fun i => (i.zero, i.size, i.bytes)) = some (some (.agg #[.int .i64 0, .string ⟨#[]⟩, .int .i64 0, .slice none 0 0, .slice none 0 0, .int .i64 0]), 6, 88) by kernel_rfl)
 have tsl : Tryz.prog.underlying 23 = some (.slice 45) := by kernel_rfl
 obtain ⟨a, c, rfl, hc, hm⟩ := hl.form
 obtain ⟨n, hn⟩ : ∃ n, l.length = n := ⟨_, rfl⟩
 have HN := Lib.hid hn
 unfold maxLen at hm
 rw [hn] at hl hc ⊢
 have HL := Lib.hid hl
 have HK := Lib.hid hk
 have hlt := hk.lt
 obtain ⟨R, hR⟩ : ∃ R, fewL deep n0 l = R := ⟨_, rfl⟩
 rw [hR]
 have HR := Lib.hid hR
 replace IH := Lib.hid IH
 clear hl hk hn hR
 go_enter Tryz.func23, Tryz.ntmps23
 go_wp2_with fail
 go_loopw [7, 12] (fun o y wr => ∃ (k m : Nat) (done : List Nd), y = .int .i64 (k : Int) ∧ k ≤ n ∧ m ≤ 200 ∧ Hid (OwnT RT w.heap.size (fun b => b < B0 ∨ w.heap.size ≤ b) wr o done) ∧ Hid (Blk 3 kn #[.int .i64 (m : Int)] wr) ∧ Hid (But (fun b => b = kn) w wr) ∧
   Hid (R = (done ++ (fewL deep m (l.drop k)).1, (fewL deep m (l.drop k)).2)) ∧ done.length + m ≤ 200) (fun _ y _ => n - (intOf y).toNat)
 case atStart => exact ⟨0, n0, [], rfl, Nat.zero_le _, hn0, Lib.hid (OwnT.nil _ _ _ _), HK, Lib.hid (But.refl _ _), Lib.hid (by rw [List.drop_zero, HR.out]; rfl), by simpa using hn0⟩
 case round =>
  obtain ⟨k, m, done, rfl, hk, hm2, hown, hblk, hbut, hgo, hdn⟩ := hrel
  have s0 : wr.cell? ⟨kn, 0, none⟩ = some (.int .i64 (m : Int)) := hblk.out.c 0 _ rfl
  have sf : ∀ i, wr.frozen? ⟨kn, i, none⟩ = false := hblk.out.fz
  have hlt2 := hblk.out.lt
  by_cases hkn : k < n
  · have hdec : decide ((k : Int) < (n : Int)) = true := by simpa using hkn
    have hkw : IntKind.i64.wrap ((k : Int) + 1) = (k : Int) + 1 := IntWalk.i64_in _ (by omega)
    have hkp : Kp (fun b => b < B0) w wr := ⟨hbut.out.size, fun b hb hl => hbut.out.block b hl (by omega)⟩
    obtain ⟨gb, off, x, ka, kc, na, nc, rfl, hx, hgb, hgB, ⟨c0, c1, c2, c3, c4, c5⟩, hkt, hnt⟩ := (HL.out.kp hkp).nth k hkn
    have n1 : ¬ kn = wr.heap.size := by omega
    have n2 : ¬ wr.heap.size = kn := by omega
    have hdr := drop_at hx
    have hgo2 := hgo.out
    rw [hdr, fewL_cons] at hgo2
    by_cases h0 : m = 0
    · rw [if_pos (.inl h0)] at hgo2
      have HG := Lib.hid hgo2
      clear hgo2 hgo hx hdr hkt hnt
      subst h0
      go_wp2_with fail
      go_ret
      exact ⟨_, rfl, by rw [HG.out]; simpa using hown.out.bel (alloc_bel _ _), by rw [HG.out]; exact hblk.out.alloc _, hbut.out.alloc _⟩
    · by_cases hd0 : deep = 0
      · rw [if_pos (.inr hd0)] at hgo2
        have HG := Lib.hid hgo2
        clear hgo2 hgo hx hdr hkt hnt
        subst hd0
        have hm0 : decide ((m : Int) ≤ 0) = false := decide_eq_false (by omega)
        go_wp2_with fail
        go_ret
        exact ⟨_, rfl, by rw [HG.out]; simpa using hown.out.bel (alloc_bel _ _), by rw [HG.out]; exact hblk.out.alloc _, hbut.out.alloc _⟩
      · rw [if_neg (by omega)] at hgo2
        have HG := Lib.hid hgo2
        have HX := Lib.hid (List.mem_of_getElem? hx)
        have HKT := Lib.hid hkt
        have HNT := Lib.hid hnt
        clear hgo2 hgo hx hdr hkt hnt
        have hm0 : decide ((m : Int) ≤ 0) = false := decide_eq_false (by omega)
        have hd1 : decide ((deep : Int) ≤ 0) = false := decide_eq_false (by omega)
        have hmw : IntKind.i64.wrap ((m : Int) - 1) = ((m - 1 : Nat) : Int) := by
         have : ((m - 1 : Nat) : Int) = (m : Int) - 1 := by omega
         rw [this]; exact IntWalk.i64_in _ (by omega)
        have hdw : IntKind.i64.wrap ((deep : Int) - 1) = ((deep - 1 : Nat) : Int) := by
         have : ((deep - 1 : Nat) : Int) = (deep : Int) - 1 := by omega
         rw [this]; exact IntWalk.i64_in _ (by omega)
        have hsn : (⟨x.name.toArray⟩ : ByteArray).size = x.name.length := rfl
        have hncf : x.names.length ≤ nc := by obtain ⟨_, _, e, h, _⟩ := HNT.out.form; cases e; exact h
        by_cases h5 : 5000 < x.name.length
        · by_cases h9 : 9 < x.names.length
          · have hd5 : decide ((5000 : Int) < (x.name.length : Int)) = true := decide_eq_true (by omega)
            have hd9 : decide ((9 : Int) < (x.names.length : Int)) = true := decide_eq_true (by omega)
            have hc9 : decide ((9 : Int) ≤ (nc : Int)) = true := decide_eq_true (by omega)
            go_upto_region 11 with fail
            obtain ⟨W, hWe⟩ : ∃ W, (wr.setCell ⟨kn, 0, none⟩ (.int .i64 ((m - 1 : Nat) : Int))).alloc (.cells #[.int .i64 x.kind, .string ((⟨x.name.toArray⟩ : ByteArray).extract 0 5000), .int .i64 x.num, .slice ka x.kids.length kc, .slice na 9 nc, .int .i64 x.at_] 45) = W := ⟨_, rfl⟩
            have hz : (wr.setCell ⟨kn, 0, none⟩ (.int .i64 ((m - 1 : Nat) : Int))).heap.size = wr.heap.size := by simp [World.setCell]
            have hBk : Blk 45 wr.heap.size #[.int .i64 x.kind, .string ((⟨x.name.toArray⟩ : ByteArray).extract 0 5000), .int .i64 x.num, .slice ka x.kids.length kc, .slice na 9 nc, .int .i64 x.at_] W := by
             rw [← hWe]
             have h := Blk.made (T := 45) (cs := #[.int .i64 x.kind, .string ((⟨x.name.toArray⟩ : ByteArray).extract 0 5000), .int .i64 x.num, .slice ka x.kids.length kc, .slice na 9 nc, .int .i64 x.at_]) (wr.setCell ⟨kn, 0, none⟩ (.int .i64 ((m - 1 : Nat) : Int)))
             rw [hz] at h
             exact h
            have hKn : Blk 3 kn #[.int .i64 ((m - 1 : Nat) : Int)] W := by rw [← hWe]; exact (hblk.out.set_ 0 _ _ rfl).alloc _
            have hBw : But (fun b => b = kn) wr W := by rw [← hWe]; exact ((But.refl (fun b => b = kn) wr).set_ (k := kn) rfl 0 _).alloc _
            have hWs : W.heap.size = wr.heap.size + 1 := by rw [← hWe, World.size_alloc, hz]
            rw [hWe]
            have hkp1 : Kp (fun b => b < B0) wr W := ⟨hBw.size, fun b hb hl => hBw.block b hl (by omega)⟩
            have HIH := Lib.hid (IH.out x HX.out (.slice ka x.kids.length kc) (deep - 1) (m - 1) W (by omega) (by omega) hB0 hKn (HKT.out.kp hkp1))
            have hwb : w.heap.size ≤ wr.heap.size := hbut.out.size
            have e3 := hBk.c 3 _ rfl
            have HBk := Lib.hid hBk
            have HBw := Lib.hid hBw
            clear hWe hz hBk hKn hBw hkp1 c0 c1 c2 c3 c4 c5 s0 sf
            go_upto_region 12 with fail
            refine HIH.out.mono ?_; rintro e w4 ⟨v4, rfl, hO4, hB4, hbt4⟩
            have hT4 := hO4.tree
            have hlo4 : ∀ g, v4.ownBlock = some g → W.heap.size ≤ g := fun g hg => by obtain ⟨vl4, -, ho4, -⟩ := hO4; exact (ho4.lt g hg).1
            obtain ⟨fo, fl, fc, rfl⟩ : ∃ a b c, v4 = .slice a b c := by obtain ⟨vl4, -, ho4, -⟩ := hO4; obtain ⟨ao, co, h, -⟩ := own_slice ho4; exact ⟨_, _, _, h⟩
            have hbk4 := hbt4.blk HBk.out (by omega)
            have f3 := hbk4.c 3 _ rfl
            have ff := hbk4.fz
            have hl4 := hbk4.lt
            have HB4 := Lib.hid hB4
            have HT4 := Lib.hid (hT4.mono (S' := fun b => b < B0 ∨ W.heap.size ≤ b) (fun b hb _ => by
             rcases hb with (hb | hb) | hb
             · exact .inl hb
             · exact .inr hb
             · exact .inr (hlo4 b hb)))
            have HBT4 := Lib.hid (HBw.out.trans hbt4)
            have HK4 := Lib.hid hbk4
            clear hO4 hB4 hbt4 hT4 hlo4 hbk4
            go_upto_region 12 with fail
            obtain ⟨W5, hW5⟩ : ∃ W, w4.setCell ⟨wr.heap.size, 3, none⟩ (.slice fo fl fc) = W := ⟨_, rfl⟩
            have hk5 : Blk 45 wr.heap.size #[.int .i64 x.kind, .string ((⟨x.name.toArray⟩ : ByteArray).extract 0 5000), .int .i64 x.num, .slice fo fl fc, .slice na 9 nc, .int .i64 x.at_] W5 := by rw [← hW5]; exact HK4.out.set_ 3 _ _ rfl
            have hb5 : But (fun b => b = kn) wr W5 := by
             rw [← hW5]
             exact ⟨HBT4.out.os, HBT4.out.tape, HBT4.out.output, Nat.le_trans HBT4.out.size (by simp [World.setCell]), fun b hb hx => (Below.heap_setCell w4 ⟨wr.heap.size, 3, none⟩ _ b (by show b ≠ wr.heap.size; omega)).trans (HBT4.out.block b hb hx)⟩
            have hn5 : Blk 3 kn #[.int .i64 ((fewL (deep - 1) (m - 1) x.kids).2 : Int)] W5 := by rw [← hW5]; exact HB4.out.far (p := ⟨wr.heap.size, 3, none⟩) (by show kn ≠ wr.heap.size; omega) _
            have hs5 : w4.heap.size = W5.heap.size := by rw [← hW5]; simp [World.setCell]
            have hT5 : Tree (fun b => b < B0 ∨ W.heap.size ≤ b) W5 (.slice fo fl fc) (fewL (deep - 1) (m - 1) x.kids).1 := HT4.out.kp ⟨by omega, fun b hb hl => by rw [← hW5]; exact Below.heap_setCell w4 ⟨wr.heap.size, 3, none⟩ _ b (by show b ≠ wr.heap.size; omega)⟩
            have hO5 : OwnT RT w.heap.size (fun b => b < B0 ∨ w.heap.size ≤ b) W5 u7 done := hown.out.kp hb5.size (fun b hl hb => hb5.block b hl (by omega))
            have hN5 : Rd (fun b => b < B0) strV W5 (.slice na 9 nc) (x.names.take 9) := (HNT.out.cut 9 (by omega)).kp ⟨hb5.size, fun b hb hl => hb5.block b hl (by omega)⟩
            rw [hW5]
            obtain ⟨vl, hvl, hrow, hsub⟩ := hO5
            have hown5 : ∀ b, u7.ownBlock = some b → w.heap.size ≤ b ∧ b < wr.heap.size := fun b hb => by
             obtain ⟨vl', -, hr', -⟩ := hown.out
             exact hr'.lt b hb
            have hT6 := hT5.mono (S' := fun b => (b < B0 ∨ w.heap.size ≤ b) ∧ u7.ownBlock ≠ some b) (fun b hb _ => ⟨by omega, fun h => by have := hown5 b h; omega⟩)
            have hN6 := hN5.mono (S' := fun b => (b < B0 ∨ w.heap.size ≤ b) ∧ u7.ownBlock ≠ some b) (fun b hb _ => ⟨by omega, fun h => by have := hown5 b h; omega⟩)
            have hvll : vl.length = done.length := by rw [← hvl, List.length_map]
            have g0 := hk5.c 0 _ rfl
            have g1 := hk5.c 1 _ rfl
            have g2 := hk5.c 2 _ rfl
            have g3 := hk5.c 3 _ rfl
            have g4 := hk5.c 4 _ rfl
            have g5 := hk5.c 5 _ rfl
            have HA := alloc_bel W5 (.cells #[.int .i64 x.kind, .string ((⟨x.name.toArray⟩ : ByteArray).extract 0 5000), .int .i64 x.num, .slice fo fl fc, .slice na 9 nc, .int .i64 x.at_] 45)
            have HT6 := Lib.hid (hT6.bel HA)
            have HN6 := Lib.hid (hN6.below HA)
            have HSUB := Lib.hid (fun y (hy : y ∈ vl) => (⟨(hsub y hy).1.bel HA, (hsub y hy).2.below HA⟩ : _ ∧ _))
            rw [hvll] at hrow
            have HROW := Lib.hid (own_below hrow HA)
            have HN5 := Lib.hid (hn5.alloc (.cells #[.int .i64 x.kind, .string ((⟨x.name.toArray⟩ : ByteArray).extract 0 5000), .int .i64 x.num, .slice fo fl fc, .slice na 9 nc, .int .i64 x.at_] 45))
            have HB5 := Lib.hid (hb5.alloc (.cells #[.int .i64 x.kind, .string ((⟨x.name.toArray⟩ : ByteArray).extract 0 5000), .int .i64 x.num, .slice fo fl fc, .slice na 9 nc, .int .i64 x.at_] 45))
            have HVL := Lib.hid hvl
            have HVLL := Lib.hid hvll
            have HOWN5 := Lib.hid hown5
            have hw5 := hb5.size
            clear hvll hW5 hk5 hb5 hn5 hs5 hT5 hN5 hT6 hN6 HA hrow hsub HT4 HB4 HK4 HBT4 hvl f3 ff e3 hown5
            go_wp2_with (at_builtin; refine wpList_append_lies _ rfl _ _ 23 rfl w.heap.size RT i0 (.agg #[.int .i64 0, .string ⟨#[]⟩, .int .i64 0, .slice none 0 0, .slice none 0 0, .int .i64 0]) 6 88 tsl hi0 hz0 hz1 hz2 rfl (by decide) _ done.length (flatN vl) rfl HROW.out ⟨W5.heap.size, 0, none⟩ 1 1 [.int .i64 x.kind, .string ((⟨x.name.toArray⟩ : ByteArray).extract 0 5000), .int .i64 x.num, .slice fo fl fc, .slice na 9 nc, .int .i64 x.at_] rfl rfl (cells6 W5 RT _ _ _ _ _ _) (fun u hu => by simp at hu; rcases hu with rfl | rfl | rfl | rfl | rfl | rfl <;> rfl) (by decide) (by unfold maxLen; omega) (by omega) (by simp; omega) _ rfl ?_)
            intro g cap w6 hown6 hgrow6 hat6 hlt6
            have hsnoc := own_snoc (n := done.length) (x := cutN x (fewL (deep - 1) (m - 1) x.kids).1) (kv := .slice fo fl fc) (nv := .slice na 9 nc) (S := fun b => b < B0 ∨ w.heap.size ≤ b) HVLL.out.symm hgrow6.size HSUB.out HT6.out HN6.out (by
             have e : ndC (cutN x (fewL (deep - 1) (m - 1) x.kids).1) (.slice fo fl fc) (.slice na 9 nc) = [.int .i64 x.kind, .string ((⟨x.name.toArray⟩ : ByteArray).extract 0 5000), .int .i64 x.num, .slice fo fl fc, .slice na 9 nc, .int .i64 x.at_] := by
              show ([.int .i64 x.kind, .string ⟨(x.name.take 5000).toArray⟩, .int .i64 x.num, .slice fo fl fc, .slice na 9 nc, .int .i64 x.at_] : List Value) = _
              rw [cut_str]
             rw [e]
             exact hown6) hgrow6 (by simpa using hat6)
            rw [HVL.out] at hsnoc
            have hblk6 : Blk 3 kn #[.int .i64 ((fewL (deep - 1) (m - 1) x.kids).2 : Int)] w6 := (hgrow6.block kn HN5.out.lt (fun h => by have := HOWN5.out kn h.symm; omega)).trans HN5.out
            have hb56 := hbut.out.trans HB5.out
            have hbut6 : But (fun b => b = kn) w w6 := ⟨hgrow6.os.trans hb56.os, hgrow6.tape.trans hb56.tape, hgrow6.output.trans hb56.output, Nat.le_trans hb56.size hgrow6.size, fun b hb hx => (hgrow6.block b (Nat.lt_of_lt_of_le hb hb56.size) (fun h => by have := HOWN5.out b h.symm; omega)).trans (hb56.block b hb hx)⟩
            have HSN := Lib.hid hsnoc
            have HBL6 := Lib.hid hblk6
            have HBU6 := Lib.hid hbut6
            clear hown6 hgrow6 hat6 hlt6 hsnoc hblk6 hbut6 hb56
            go_wp2_with fail
            have hcnt := few_cnt x.kids (deep - 1) (m - 1)
            exact ⟨⟨k + 1, (fewL (deep - 1) (m - 1) x.kids).2, done ++ [cutN x (fewL (deep - 1) (m - 1) x.kids).1], by simp, by omega, by omega, HSN, HBL6, HBU6, Lib.hid (by rw [HG.out]; simp), by rw [List.length_append]; simp; omega⟩, by simp only [intOf]; omega⟩
          · have hd5 : decide ((5000 : Int) < (x.name.length : Int)) = true := decide_eq_true (by omega)
            have hd9 : decide ((9 : Int) < (x.names.length : Int)) = false := decide_eq_false (by omega)
            go_upto_region 11 with fail
            obtain ⟨W, hWe⟩ : ∃ W, (wr.setCell ⟨kn, 0, none⟩ (.int .i64 ((m - 1 : Nat) : Int))).alloc (.cells #[.int .i64 x.kind, .string ((⟨x.name.toArray⟩ : ByteArray).extract 0 5000), .int .i64 x.num, .slice ka x.kids.length kc, .slice na x.names.length nc, .int .i64 x.at_] 45) = W := ⟨_, rfl⟩
            have hz : (wr.setCell ⟨kn, 0, none⟩ (.int .i64 ((m - 1 : Nat) : Int))).heap.size = wr.heap.size := by simp [World.setCell]
            have hBk : Blk 45 wr.heap.size #[.int .i64 x.kind, .string ((⟨x.name.toArray⟩ : ByteArray).extract 0 5000), .int .i64 x.num, .slice ka x.kids.length kc, .slice na x.names.length nc, .int .i64 x.at_] W := by
             rw [← hWe]
             have h := Blk.made (T := 45) (cs := #[.int .i64 x.kind, .string ((⟨x.name.toArray⟩ : ByteArray).extract 0 5000), .int .i64 x.num, .slice ka x.kids.length kc, .slice na x.names.length nc, .int .i64 x.at_]) (wr.setCell ⟨kn, 0, none⟩ (.int .i64 ((m - 1 : Nat) : Int)))
             rw [hz] at h
             exact h
            have hKn : Blk 3 kn #[.int .i64 ((m - 1 : Nat) : Int)] W := by rw [← hWe]; exact (hblk.out.set_ 0 _ _ rfl).alloc _
            have hBw : But (fun b => b = kn) wr W := by rw [← hWe]; exact ((But.refl (fun b => b = kn) wr).set_ (k := kn) rfl 0 _).alloc _
            have hWs : W.heap.size = wr.heap.size + 1 := by rw [← hWe, World.size_alloc, hz]
            rw [hWe]
            have hkp1 : Kp (fun b => b < B0) wr W := ⟨hBw.size, fun b hb hl => hBw.block b hl (by omega)⟩
            have HIH := Lib.hid (IH.out x HX.out (.slice ka x.kids.length kc) (deep - 1) (m - 1) W (by omega) (by omega) hB0 hKn (HKT.out.kp hkp1))
            have hwb : w.heap.size ≤ wr.heap.size := hbut.out.size
            have e3 := hBk.c 3 _ rfl
            have HBk := Lib.hid hBk
            have HBw := Lib.hid hBw
            clear hWe hz hBk hKn hBw hkp1 c0 c1 c2 c3 c4 c5 s0 sf
            go_upto_region 12 with fail
            refine HIH.out.mono ?_; rintro e w4 ⟨v4, rfl, hO4, hB4, hbt4⟩
            have hT4 := hO4.tree
            have hlo4 : ∀ g, v4.ownBlock = some g → W.heap.size ≤ g := fun g hg => by obtain ⟨vl4, -, ho4, -⟩ := hO4; exact (ho4.lt g hg).1
            obtain ⟨fo, fl, fc, rfl⟩ : ∃ a b c, v4 = .slice a b c := by obtain ⟨vl4, -, ho4, -⟩ := hO4; obtain ⟨ao, co, h, -⟩ := own_slice ho4; exact ⟨_, _, _, h⟩
            have hbk4 := hbt4.blk HBk.out (by omega)
            have f3 := hbk4.c 3 _ rfl
            have ff := hbk4.fz
            have hl4 := hbk4.lt
            have HB4 := Lib.hid hB4
            have HT4 := Lib.hid (hT4.mono (S' := fun b => b < B0 ∨ W.heap.size ≤ b) (fun b hb _ => by
             rcases hb with (hb | hb) | hb
             · exact .inl hb
             · exact .inr hb
             · exact .inr (hlo4 b hb)))
            have HBT4 := Lib.hid (HBw.out.trans hbt4)
            have HK4 := Lib.hid hbk4
            clear hO4 hB4 hbt4 hT4 hlo4 hbk4
            go_upto_region 12 with fail
            obtain ⟨W5, hW5⟩ : ∃ W, w4.setCell ⟨wr.heap.size, 3, none⟩ (.slice fo fl fc) = W := ⟨_, rfl⟩
            have hk5 : Blk 45 wr.heap.size #[.int .i64 x.kind, .string ((⟨x.name.toArray⟩ : ByteArray).extract 0 5000), .int .i64 x.num, .slice fo fl fc, .slice na x.names.length nc, .int .i64 x.at_] W5 := by rw [← hW5]; exact HK4.out.set_ 3 _ _ rfl
            have hb5 : But (fun b => b = kn) wr W5 := by
             rw [← hW5]
             exact ⟨HBT4.out.os, HBT4.out.tape, HBT4.out.output, Nat.le_trans HBT4.out.size (by simp [World.setCell]), fun b hb hx => (Below.heap_setCell w4 ⟨wr.heap.size, 3, none⟩ _ b (by show b ≠ wr.heap.size; omega)).trans (HBT4.out.block b hb hx)⟩
            have hn5 : Blk 3 kn #[.int .i64 ((fewL (deep - 1) (m - 1) x.kids).2 : Int)] W5 := by rw [← hW5]; exact HB4.out.far (p := ⟨wr.heap.size, 3, none⟩) (by show kn ≠ wr.heap.size; omega) _
            have hs5 : w4.heap.size = W5.heap.size := by rw [← hW5]; simp [World.setCell]
            have hT5 : Tree (fun b => b < B0 ∨ W.heap.size ≤ b) W5 (.slice fo fl fc) (fewL (deep - 1) (m - 1) x.kids).1 := HT4.out.kp ⟨by omega, fun b hb hl => by rw [← hW5]; exact Below.heap_setCell w4 ⟨wr.heap.size, 3, none⟩ _ b (by show b ≠ wr.heap.size; omega)⟩
            have hO5 : OwnT RT w.heap.size (fun b => b < B0 ∨ w.heap.size ≤ b) W5 u7 done := hown.out.kp hb5.size (fun b hl hb => hb5.block b hl (by omega))
            have hN5 : Rd (fun b => b < B0) strV W5 (.slice na x.names.length nc) (x.names.take 9) := (show Rd (fun b => b < B0) strV wr (.slice na x.names.length nc) (x.names.take 9) from (by rw [List.take_of_length_le (by omega)]; exact HNT.out)).kp ⟨hb5.size, fun b hb hl => hb5.block b hl (by omega)⟩
            rw [hW5]
            obtain ⟨vl, hvl, hrow, hsub⟩ := hO5
            have hown5 : ∀ b, u7.ownBlock = some b → w.heap.size ≤ b ∧ b < wr.heap.size := fun b hb => by
             obtain ⟨vl', -, hr', -⟩ := hown.out
             exact hr'.lt b hb
            have hT6 := hT5.mono (S' := fun b => (b < B0 ∨ w.heap.size ≤ b) ∧ u7.ownBlock ≠ some b) (fun b hb _ => ⟨by omega, fun h => by have := hown5 b h; omega⟩)
            have hN6 := hN5.mono (S' := fun b => (b < B0 ∨ w.heap.size ≤ b) ∧ u7.ownBlock ≠ some b) (fun b hb _ => ⟨by omega, fun h => by have := hown5 b h; omega⟩)
            have hvll : vl.length = done.length := by rw [← hvl, List.length_map]
            have g0 := hk5.c 0 _ rfl
            have g1 := hk5.c 1 _ rfl
            have g2 := hk5.c 2 _ rfl
            have g3 := hk5.c 3 _ rfl
            have g4 := hk5.c 4 _ rfl
            have g5 := hk5.c 5 _ rfl
            have HA := alloc_bel W5 (.cells #[.int .i64 x.kind, .string ((⟨x.name.toArray⟩ : ByteArray).extract 0 5000), .int .i64 x.num, .slice fo fl fc, .slice na x.names.length nc, .int .i64 x.at_] 45)
            have HT6 := Lib.hid (hT6.bel HA)
            have HN6 := Lib.hid (hN6.below HA)
            have HSUB := Lib.hid (fun y (hy : y ∈ vl) => (⟨(hsub y hy).1.bel HA, (hsub y hy).2.below HA⟩ : _ ∧ _))
            rw [hvll] at hrow
            have HROW := Lib.hid (own_below hrow HA)
            have HN5 := Lib.hid (hn5.alloc (.cells #[.int .i64 x.kind, .string ((⟨x.name.toArray⟩ : ByteArray).extract 0 5000), .int .i64 x.num, .slice fo fl fc, .slice na x.names.length nc, .int .i64 x.at_] 45))
            have HB5 := Lib.hid (hb5.alloc (.cells #[.int .i64 x.kind, .string ((⟨x.name.toArray⟩ : ByteArray).extract 0 5000), .int .i64 x.num, .slice fo fl fc, .slice na x.names.length nc, .int .i64 x.at_] 45))
            have HVL := Lib.hid hvl
            have HVLL := Lib.hid hvll
            have HOWN5 := Lib.hid hown5
            have hw5 := hb5.size
            clear hvll hW5 hk5 hb5 hn5 hs5 hT5 hN5 hT6 hN6 HA hrow hsub HT4 HB4 HK4 HBT4 hvl f3 ff e3 hown5
            go_wp2_with (at_builtin; refine wpList_append_lies _ rfl _ _ 23 rfl w.heap.size RT i0 (.agg #[.int .i64 0, .string ⟨#[]⟩, .int .i64 0, .slice none 0 0, .slice none 0 0, .int .i64 0]) 6 88 tsl hi0 hz0 hz1 hz2 rfl (by decide) _ done.length (flatN vl) rfl HROW.out ⟨W5.heap.size, 0, none⟩ 1 1 [.int .i64 x.kind, .string ((⟨x.name.toArray⟩ : ByteArray).extract 0 5000), .int .i64 x.num, .slice fo fl fc, .slice na x.names.length nc, .int .i64 x.at_] rfl rfl (cells6 W5 RT _ _ _ _ _ _) (fun u hu => by simp at hu; rcases hu with rfl | rfl | rfl | rfl | rfl | rfl <;> rfl) (by decide) (by unfold maxLen; omega) (by omega) (by simp; omega) _ rfl ?_)
            intro g cap w6 hown6 hgrow6 hat6 hlt6
            have hsnoc := own_snoc (n := done.length) (x := cutN x (fewL (deep - 1) (m - 1) x.kids).1) (kv := .slice fo fl fc) (nv := .slice na x.names.length nc) (S := fun b => b < B0 ∨ w.heap.size ≤ b) HVLL.out.symm hgrow6.size HSUB.out HT6.out HN6.out (by
             have e : ndC (cutN x (fewL (deep - 1) (m - 1) x.kids).1) (.slice fo fl fc) (.slice na x.names.length nc) = [.int .i64 x.kind, .string ((⟨x.name.toArray⟩ : ByteArray).extract 0 5000), .int .i64 x.num, .slice fo fl fc, .slice na x.names.length nc, .int .i64 x.at_] := by
              show ([.int .i64 x.kind, .string ⟨(x.name.take 5000).toArray⟩, .int .i64 x.num, .slice fo fl fc, .slice na x.names.length nc, .int .i64 x.at_] : List Value) = _
              rw [cut_str]
             rw [e]
             exact hown6) hgrow6 (by simpa using hat6)
            rw [HVL.out] at hsnoc
            have hblk6 : Blk 3 kn #[.int .i64 ((fewL (deep - 1) (m - 1) x.kids).2 : Int)] w6 := (hgrow6.block kn HN5.out.lt (fun h => by have := HOWN5.out kn h.symm; omega)).trans HN5.out
            have hb56 := hbut.out.trans HB5.out
            have hbut6 : But (fun b => b = kn) w w6 := ⟨hgrow6.os.trans hb56.os, hgrow6.tape.trans hb56.tape, hgrow6.output.trans hb56.output, Nat.le_trans hb56.size hgrow6.size, fun b hb hx => (hgrow6.block b (Nat.lt_of_lt_of_le hb hb56.size) (fun h => by have := HOWN5.out b h.symm; omega)).trans (hb56.block b hb hx)⟩
            have HSN := Lib.hid hsnoc
            have HBL6 := Lib.hid hblk6
            have HBU6 := Lib.hid hbut6
            clear hown6 hgrow6 hat6 hlt6 hsnoc hblk6 hbut6 hb56
            go_wp2_with fail
            have hcnt := few_cnt x.kids (deep - 1) (m - 1)
            exact ⟨⟨k + 1, (fewL (deep - 1) (m - 1) x.kids).2, done ++ [cutN x (fewL (deep - 1) (m - 1) x.kids).1], by simp, by omega, by omega, HSN, HBL6, HBU6, Lib.hid (by rw [HG.out]; simp), by rw [List.length_append]; simp; omega⟩, by simp only [intOf]; omega⟩
        · by_cases h9 : 9 < x.names.length
          · have hd5 : decide ((5000 : Int) < (x.name.length : Int)) = false := decide_eq_false (by omega)
            have hd9 : decide ((9 : Int) < (x.names.length : Int)) = true := decide_eq_true (by omega)
            have hc9 : decide ((9 : Int) ≤ (nc : Int)) = true := decide_eq_true (by omega)
            go_upto_region 11 with fail
            obtain ⟨W, hWe⟩ : ∃ W, (wr.setCell ⟨kn, 0, none⟩ (.int .i64 ((m - 1 : Nat) : Int))).alloc (.cells #[.int .i64 x.kind, .string ⟨x.name.toArray⟩, .int .i64 x.num, .slice ka x.kids.length kc, .slice na 9 nc, .int .i64 x.at_] 45) = W := ⟨_, rfl⟩
            have hz : (wr.setCell ⟨kn, 0, none⟩ (.int .i64 ((m - 1 : Nat) : Int))).heap.size = wr.heap.size := by simp [World.setCell]
            have hBk : Blk 45 wr.heap.size #[.int .i64 x.kind, .string ⟨x.name.toArray⟩, .int .i64 x.num, .slice ka x.kids.length kc, .slice na 9 nc, .int .i64 x.at_] W := by
             rw [← hWe]
             have h := Blk.made (T := 45) (cs := #[.int .i64 x.kind, .string ⟨x.name.toArray⟩, .int .i64 x.num, .slice ka x.kids.length kc, .slice na 9 nc, .int .i64 x.at_]) (wr.setCell ⟨kn, 0, none⟩ (.int .i64 ((m - 1 : Nat) : Int)))
             rw [hz] at h
             exact h
            have hKn : Blk 3 kn #[.int .i64 ((m - 1 : Nat) : Int)] W := by rw [← hWe]; exact (hblk.out.set_ 0 _ _ rfl).alloc _
            have hBw : But (fun b => b = kn) wr W := by rw [← hWe]; exact ((But.refl (fun b => b = kn) wr).set_ (k := kn) rfl 0 _).alloc _
            have hWs : W.heap.size = wr.heap.size + 1 := by rw [← hWe, World.size_alloc, hz]
            rw [hWe]
            have hkp1 : Kp (fun b => b < B0) wr W := ⟨hBw.size, fun b hb hl => hBw.block b hl (by omega)⟩
            have HIH := Lib.hid (IH.out x HX.out (.slice ka x.kids.length kc) (deep - 1) (m - 1) W (by omega) (by omega) hB0 hKn (HKT.out.kp hkp1))
            have hwb : w.heap.size ≤ wr.heap.size := hbut.out.size
            have e3 := hBk.c 3 _ rfl
            have HBk := Lib.hid hBk
            have HBw := Lib.hid hBw
            clear hWe hz hBk hKn hBw hkp1 c0 c1 c2 c3 c4 c5 s0 sf
            go_upto_region 12 with fail
            refine HIH.out.mono ?_; rintro e w4 ⟨v4, rfl, hO4, hB4, hbt4⟩
            have hT4 := hO4.tree
            have hlo4 : ∀ g, v4.ownBlock = some g → W.heap.size ≤ g := fun g hg => by obtain ⟨vl4, -, ho4, -⟩ := hO4; exact (ho4.lt g hg).1
            obtain ⟨fo, fl, fc, rfl⟩ : ∃ a b c, v4 = .slice a b c := by obtain ⟨vl4, -, ho4, -⟩ := hO4; obtain ⟨ao, co, h, -⟩ := own_slice ho4; exact ⟨_, _, _, h⟩
            have hbk4 := hbt4.blk HBk.out (by omega)
            have f3 := hbk4.c 3 _ rfl
            have ff := hbk4.fz
            have hl4 := hbk4.lt
            have HB4 := Lib.hid hB4
            have HT4 := Lib.hid (hT4.mono (S' := fun b => b < B0 ∨ W.heap.size ≤ b) (fun b hb _ => by
             rcases hb with (hb | hb) | hb
             · exact .inl hb
             · exact .inr hb
             · exact .inr (hlo4 b hb)))
            have HBT4 := Lib.hid (HBw.out.trans hbt4)
            have HK4 := Lib.hid hbk4
            clear hO4 hB4 hbt4 hT4 hlo4 hbk4
            go_upto_region 12 with fail
            obtain ⟨W5, hW5⟩ : ∃ W, w4.setCell ⟨wr.heap.size, 3, none⟩ (.slice fo fl fc) = W := ⟨_, rfl⟩
            have hk5 : Blk 45 wr.heap.size #[.int .i64 x.kind, .string ⟨x.name.toArray⟩, .int .i64 x.num, .slice fo fl fc, .slice na 9 nc, .int .i64 x.at_] W5 := by rw [← hW5]; exact HK4.out.set_ 3 _ _ rfl
            have hb5 : But (fun b => b = kn) wr W5 := by
             rw [← hW5]
             exact ⟨HBT4.out.os, HBT4.out.tape, HBT4.out.output, Nat.le_trans HBT4.out.size (by simp [World.setCell]), fun b hb hx => (Below.heap_setCell w4 ⟨wr.heap.size, 3, none⟩ _ b (by show b ≠ wr.heap.size; omega)).trans (HBT4.out.block b hb hx)⟩
            have hn5 : Blk 3 kn #[.int .i64 ((fewL (deep - 1) (m - 1) x.kids).2 : Int)] W5 := by rw [← hW5]; exact HB4.out.far (p := ⟨wr.heap.size, 3, none⟩) (by show kn ≠ wr.heap.size; omega) _
            have hs5 : w4.heap.size = W5.heap.size := by rw [← hW5]; simp [World.setCell]
            have hT5 : Tree (fun b => b < B0 ∨ W.heap.size ≤ b) W5 (.slice fo fl fc) (fewL (deep - 1) (m - 1) x.kids).1 := HT4.out.kp ⟨by omega, fun b hb hl => by rw [← hW5]; exact Below.heap_setCell w4 ⟨wr.heap.size, 3, none⟩ _ b (by show b ≠ wr.heap.size; omega)⟩
            have hO5 : OwnT RT w.heap.size (fun b => b < B0 ∨ w.heap.size ≤ b) W5 u7 done := hown.out.kp hb5.size (fun b hl hb => hb5.block b hl (by omega))
            have hN5 : Rd (fun b => b < B0) strV W5 (.slice na 9 nc) (x.names.take 9) := (HNT.out.cut 9 (by omega)).kp ⟨hb5.size, fun b hb hl => hb5.block b hl (by omega)⟩
            rw [hW5]
            obtain ⟨vl, hvl, hrow, hsub⟩ := hO5
            have hown5 : ∀ b, u7.ownBlock = some b → w.heap.size ≤ b ∧ b < wr.heap.size := fun b hb => by
             obtain ⟨vl', -, hr', -⟩ := hown.out
             exact hr'.lt b hb
            have hT6 := hT5.mono (S' := fun b => (b < B0 ∨ w.heap.size ≤ b) ∧ u7.ownBlock ≠ some b) (fun b hb _ => ⟨by omega, fun h => by have := hown5 b h; omega⟩)
            have hN6 := hN5.mono (S' := fun b => (b < B0 ∨ w.heap.size ≤ b) ∧ u7.ownBlock ≠ some b) (fun b hb _ => ⟨by omega, fun h => by have := hown5 b h; omega⟩)
            have hvll : vl.length = done.length := by rw [← hvl, List.length_map]
            have g0 := hk5.c 0 _ rfl
            have g1 := hk5.c 1 _ rfl
            have g2 := hk5.c 2 _ rfl
            have g3 := hk5.c 3 _ rfl
            have g4 := hk5.c 4 _ rfl
            have g5 := hk5.c 5 _ rfl
            have HA := alloc_bel W5 (.cells #[.int .i64 x.kind, .string ⟨x.name.toArray⟩, .int .i64 x.num, .slice fo fl fc, .slice na 9 nc, .int .i64 x.at_] 45)
            have HT6 := Lib.hid (hT6.bel HA)
            have HN6 := Lib.hid (hN6.below HA)
            have HSUB := Lib.hid (fun y (hy : y ∈ vl) => (⟨(hsub y hy).1.bel HA, (hsub y hy).2.below HA⟩ : _ ∧ _))
            rw [hvll] at hrow
            have HROW := Lib.hid (own_below hrow HA)
            have HN5 := Lib.hid (hn5.alloc (.cells #[.int .i64 x.kind, .string ⟨x.name.toArray⟩, .int .i64 x.num, .slice fo fl fc, .slice na 9 nc, .int .i64 x.at_] 45))
            have HB5 := Lib.hid (hb5.alloc (.cells #[.int .i64 x.kind, .string ⟨x.name.toArray⟩, .int .i64 x.num, .slice fo fl fc, .slice na 9 nc, .int .i64 x.at_] 45))
            have HVL := Lib.hid hvl
            have HVLL := Lib.hid hvll
            have HOWN5 := Lib.hid hown5
            have hw5 := hb5.size
            clear hvll hW5 hk5 hb5 hn5 hs5 hT5 hN5 hT6 hN6 HA hrow hsub HT4 HB4 HK4 HBT4 hvl f3 ff e3 hown5
            go_wp2_with (at_builtin; refine wpList_append_lies _ rfl _ _ 23 rfl w.heap.size RT i0 (.agg #[.int .i64 0, .string ⟨#[]⟩, .int .i64 0, .slice none 0 0, .slice none 0 0, .int .i64 0]) 6 88 tsl hi0 hz0 hz1 hz2 rfl (by decide) _ done.length (flatN vl) rfl HROW.out ⟨W5.heap.size, 0, none⟩ 1 1 [.int .i64 x.kind, .string ⟨x.name.toArray⟩, .int .i64 x.num, .slice fo fl fc, .slice na 9 nc, .int .i64 x.at_] rfl rfl (cells6 W5 RT _ _ _ _ _ _) (fun u hu => by simp at hu; rcases hu with rfl | rfl | rfl | rfl | rfl | rfl <;> rfl) (by decide) (by unfold maxLen; omega) (by omega) (by simp; omega) _ rfl ?_)
            intro g cap w6 hown6 hgrow6 hat6 hlt6
            have hsnoc := own_snoc (n := done.length) (x := cutN x (fewL (deep - 1) (m - 1) x.kids).1) (kv := .slice fo fl fc) (nv := .slice na 9 nc) (S := fun b => b < B0 ∨ w.heap.size ≤ b) HVLL.out.symm hgrow6.size HSUB.out HT6.out HN6.out (by
             have e : ndC (cutN x (fewL (deep - 1) (m - 1) x.kids).1) (.slice fo fl fc) (.slice na 9 nc) = [.int .i64 x.kind, .string ⟨x.name.toArray⟩, .int .i64 x.num, .slice fo fl fc, .slice na 9 nc, .int .i64 x.at_] := by
              show ([.int .i64 x.kind, .string ⟨(x.name.take 5000).toArray⟩, .int .i64 x.num, .slice fo fl fc, .slice na 9 nc, .int .i64 x.at_] : List Value) = _
              rw [List.take_of_length_le (by omega)]
             rw [e]
             exact hown6) hgrow6 (by simpa using hat6)
            rw [HVL.out] at hsnoc
            have hblk6 : Blk 3 kn #[.int .i64 ((fewL (deep - 1) (m - 1) x.kids).2 : Int)] w6 := (hgrow6.block kn HN5.out.lt (fun h => by have := HOWN5.out kn h.symm; omega)).trans HN5.out
            have hb56 := hbut.out.trans HB5.out
            have hbut6 : But (fun b => b = kn) w w6 := ⟨hgrow6.os.trans hb56.os, hgrow6.tape.trans hb56.tape, hgrow6.output.trans hb56.output, Nat.le_trans hb56.size hgrow6.size, fun b hb hx => (hgrow6.block b (Nat.lt_of_lt_of_le hb hb56.size) (fun h => by have := HOWN5.out b h.symm; omega)).trans (hb56.block b hb hx)⟩
            have HSN := Lib.hid hsnoc
            have HBL6 := Lib.hid hblk6
            have HBU6 := Lib.hid hbut6
            clear hown6 hgrow6 hat6 hlt6 hsnoc hblk6 hbut6 hb56
            go_wp2_with fail
            have hcnt := few_cnt x.kids (deep - 1) (m - 1)
            exact ⟨⟨k + 1, (fewL (deep - 1) (m - 1) x.kids).2, done ++ [cutN x (fewL (deep - 1) (m - 1) x.kids).1], by simp, by omega, by omega, HSN, HBL6, HBU6, Lib.hid (by rw [HG.out]; simp), by rw [List.length_append]; simp; omega⟩, by simp only [intOf]; omega⟩
          · have hd5 : decide ((5000 : Int) < (x.name.length : Int)) = false := decide_eq_false (by omega)
            have hd9 : decide ((9 : Int) < (x.names.length : Int)) = false := decide_eq_false (by omega)
            go_upto_region 11 with fail
            obtain ⟨W, hWe⟩ : ∃ W, (wr.setCell ⟨kn, 0, none⟩ (.int .i64 ((m - 1 : Nat) : Int))).alloc (.cells #[.int .i64 x.kind, .string ⟨x.name.toArray⟩, .int .i64 x.num, .slice ka x.kids.length kc, .slice na x.names.length nc, .int .i64 x.at_] 45) = W := ⟨_, rfl⟩
            have hz : (wr.setCell ⟨kn, 0, none⟩ (.int .i64 ((m - 1 : Nat) : Int))).heap.size = wr.heap.size := by simp [World.setCell]
            have hBk : Blk 45 wr.heap.size #[.int .i64 x.kind, .string ⟨x.name.toArray⟩, .int .i64 x.num, .slice ka x.kids.length kc, .slice na x.names.length nc, .int .i64 x.at_] W := by
             rw [← hWe]
             have h := Blk.made (T := 45) (cs := #[.int .i64 x.kind, .string ⟨x.name.toArray⟩, .int .i64 x.num, .slice ka x.kids.length kc, .slice na x.names.length nc, .int .i64 x.at_]) (wr.setCell ⟨kn, 0, none⟩ (.int .i64 ((m - 1 : Nat) : Int)))
             rw [hz] at h
             exact h
            have hKn : Blk 3 kn #[.int .i64 ((m - 1 : Nat) : Int)] W := by rw [← hWe]; exact (hblk.out.set_ 0 _ _ rfl).alloc _
            have hBw : But (fun b => b = kn) wr W := by rw [← hWe]; exact ((But.refl (fun b => b = kn) wr).set_ (k := kn) rfl 0 _).alloc _
            have hWs : W.heap.size = wr.heap.size + 1 := by rw [← hWe, World.size_alloc, hz]
            rw [hWe]
            have hkp1 : Kp (fun b => b < B0) wr W := ⟨hBw.size, fun b hb hl => hBw.block b hl (by omega)⟩
            have HIH := Lib.hid (IH.out x HX.out (.slice ka x.kids.length kc) (deep - 1) (m - 1) W (by omega) (by omega) hB0 hKn (HKT.out.kp hkp1))
            have hwb : w.heap.size ≤ wr.heap.size := hbut.out.size
            have e3 := hBk.c 3 _ rfl
            have HBk := Lib.hid hBk
            have HBw := Lib.hid hBw
            clear hWe hz hBk hKn hBw hkp1 c0 c1 c2 c3 c4 c5 s0 sf
            go_upto_region 12 with fail
            refine HIH.out.mono ?_; rintro e w4 ⟨v4, rfl, hO4, hB4, hbt4⟩
            have hT4 := hO4.tree
            have hlo4 : ∀ g, v4.ownBlock = some g → W.heap.size ≤ g := fun g hg => by obtain ⟨vl4, -, ho4, -⟩ := hO4; exact (ho4.lt g hg).1
            obtain ⟨fo, fl, fc, rfl⟩ : ∃ a b c, v4 = .slice a b c := by obtain ⟨vl4, -, ho4, -⟩ := hO4; obtain ⟨ao, co, h, -⟩ := own_slice ho4; exact ⟨_, _, _, h⟩
            have hbk4 := hbt4.blk HBk.out (by omega)
            have f3 := hbk4.c 3 _ rfl
            have ff := hbk4.fz
            have hl4 := hbk4.lt
            have HB4 := Lib.hid hB4
            have HT4 := Lib.hid (hT4.mono (S' := fun b => b < B0 ∨ W.heap.size ≤ b) (fun b hb _ => by
             rcases hb with (hb | hb) | hb
             · exact .inl hb
             · exact .inr hb
             · exact .inr (hlo4 b hb)))
            have HBT4 := Lib.hid (HBw.out.trans hbt4)
            have HK4 := Lib.hid hbk4
            clear hO4 hB4 hbt4 hT4 hlo4 hbk4
            go_upto_region 12 with fail
            obtain ⟨W5, hW5⟩ : ∃ W, w4.setCell ⟨wr.heap.size, 3, none⟩ (.slice fo fl fc) = W := ⟨_, rfl⟩
            have hk5 : Blk 45 wr.heap.size #[.int .i64 x.kind, .string ⟨x.name.toArray⟩, .int .i64 x.num, .slice fo fl fc, .slice na x.names.length nc, .int .i64 x.at_] W5 := by rw [← hW5]; exact HK4.out.set_ 3 _ _ rfl
            have hb5 : But (fun b => b = kn) wr W5 := by
             rw [← hW5]
             exact ⟨HBT4.out.os, HBT4.out.tape, HBT4.out.output, Nat.le_trans HBT4.out.size (by simp [World.setCell]), fun b hb hx => (Below.heap_setCell w4 ⟨wr.heap.size, 3, none⟩ _ b (by show b ≠ wr.heap.size; omega)).trans (HBT4.out.block b hb hx)⟩
            have hn5 : Blk 3 kn #[.int .i64 ((fewL (deep - 1) (m - 1) x.kids).2 : Int)] W5 := by rw [← hW5]; exact HB4.out.far (p := ⟨wr.heap.size, 3, none⟩) (by show kn ≠ wr.heap.size; omega) _
            have hs5 : w4.heap.size = W5.heap.size := by rw [← hW5]; simp [World.setCell]
            have hT5 : Tree (fun b => b < B0 ∨ W.heap.size ≤ b) W5 (.slice fo fl fc) (fewL (deep - 1) (m - 1) x.kids).1 := HT4.out.kp ⟨by omega, fun b hb hl => by rw [← hW5]; exact Below.heap_setCell w4 ⟨wr.heap.size, 3, none⟩ _ b (by show b ≠ wr.heap.size; omega)⟩
            have hO5 : OwnT RT w.heap.size (fun b => b < B0 ∨ w.heap.size ≤ b) W5 u7 done := hown.out.kp hb5.size (fun b hl hb => hb5.block b hl (by omega))
            have hN5 : Rd (fun b => b < B0) strV W5 (.slice na x.names.length nc) (x.names.take 9) := (show Rd (fun b => b < B0) strV wr (.slice na x.names.length nc) (x.names.take 9) from (by rw [List.take_of_length_le (by omega)]; exact HNT.out)).kp ⟨hb5.size, fun b hb hl => hb5.block b hl (by omega)⟩
            rw [hW5]
            obtain ⟨vl, hvl, hrow, hsub⟩ := hO5
            have hown5 : ∀ b, u7.ownBlock = some b → w.heap.size ≤ b ∧ b < wr.heap.size := fun b hb => by
             obtain ⟨vl', -, hr', -⟩ := hown.out
             exact hr'.lt b hb
            have hT6 := hT5.mono (S' := fun b => (b < B0 ∨ w.heap.size ≤ b) ∧ u7.ownBlock ≠ some b) (fun b hb _ => ⟨by omega, fun h => by have := hown5 b h; omega⟩)
            have hN6 := hN5.mono (S' := fun b => (b < B0 ∨ w.heap.size ≤ b) ∧ u7.ownBlock ≠ some b) (fun b hb _ => ⟨by omega, fun h => by have := hown5 b h; omega⟩)
            have hvll : vl.length = done.length := by rw [← hvl, List.length_map]
            have g0 := hk5.c 0 _ rfl
            have g1 := hk5.c 1 _ rfl
            have g2 := hk5.c 2 _ rfl
            have g3 := hk5.c 3 _ rfl
            have g4 := hk5.c 4 _ rfl
            have g5 := hk5.c 5 _ rfl
            have HA := alloc_bel W5 (.cells #[.int .i64 x.kind, .string ⟨x.name.toArray⟩, .int .i64 x.num, .slice fo fl fc, .slice na x.names.length nc, .int .i64 x.at_] 45)
            have HT6 := Lib.hid (hT6.bel HA)
            have HN6 := Lib.hid (hN6.below HA)
            have HSUB := Lib.hid (fun y (hy : y ∈ vl) => (⟨(hsub y hy).1.bel HA, (hsub y hy).2.below HA⟩ : _ ∧ _))
            rw [hvll] at hrow
            have HROW := Lib.hid (own_below hrow HA)
            have HN5 := Lib.hid (hn5.alloc (.cells #[.int .i64 x.kind, .string ⟨x.name.toArray⟩, .int .i64 x.num, .slice fo fl fc, .slice na x.names.length nc, .int .i64 x.at_] 45))
            have HB5 := Lib.hid (hb5.alloc (.cells #[.int .i64 x.kind, .string ⟨x.name.toArray⟩, .int .i64 x.num, .slice fo fl fc, .slice na x.names.length nc, .int .i64 x.at_] 45))
            have HVL := Lib.hid hvl
            have HVLL := Lib.hid hvll
            have HOWN5 := Lib.hid hown5
            have hw5 := hb5.size
            clear hvll hW5 hk5 hb5 hn5 hs5 hT5 hN5 hT6 hN6 HA hrow hsub HT4 HB4 HK4 HBT4 hvl f3 ff e3 hown5
            go_wp2_with (at_builtin; refine wpList_append_lies _ rfl _ _ 23 rfl w.heap.size RT i0 (.agg #[.int .i64 0, .string ⟨#[]⟩, .int .i64 0, .slice none 0 0, .slice none 0 0, .int .i64 0]) 6 88 tsl hi0 hz0 hz1 hz2 rfl (by decide) _ done.length (flatN vl) rfl HROW.out ⟨W5.heap.size, 0, none⟩ 1 1 [.int .i64 x.kind, .string ⟨x.name.toArray⟩, .int .i64 x.num, .slice fo fl fc, .slice na x.names.length nc, .int .i64 x.at_] rfl rfl (cells6 W5 RT _ _ _ _ _ _) (fun u hu => by simp at hu; rcases hu with rfl | rfl | rfl | rfl | rfl | rfl <;> rfl) (by decide) (by unfold maxLen; omega) (by omega) (by simp; omega) _ rfl ?_)
            intro g cap w6 hown6 hgrow6 hat6 hlt6
            have hsnoc := own_snoc (n := done.length) (x := cutN x (fewL (deep - 1) (m - 1) x.kids).1) (kv := .slice fo fl fc) (nv := .slice na x.names.length nc) (S := fun b => b < B0 ∨ w.heap.size ≤ b) HVLL.out.symm hgrow6.size HSUB.out HT6.out HN6.out (by
             have e : ndC (cutN x (fewL (deep - 1) (m - 1) x.kids).1) (.slice fo fl fc) (.slice na x.names.length nc) = [.int .i64 x.kind, .string ⟨x.name.toArray⟩, .int .i64 x.num, .slice fo fl fc, .slice na x.names.length nc, .int .i64 x.at_] := by
              show ([.int .i64 x.kind, .string ⟨(x.name.take 5000).toArray⟩, .int .i64 x.num, .slice fo fl fc, .slice na x.names.length nc, .int .i64 x.at_] : List Value) = _
              rw [List.take_of_length_le (by omega)]
             rw [e]
             exact hown6) hgrow6 (by simpa using hat6)
            rw [HVL.out] at hsnoc
            have hblk6 : Blk 3 kn #[.int .i64 ((fewL (deep - 1) (m - 1) x.kids).2 : Int)] w6 := (hgrow6.block kn HN5.out.lt (fun h => by have := HOWN5.out kn h.symm; omega)).trans HN5.out
            have hb56 := hbut.out.trans HB5.out
            have hbut6 : But (fun b => b = kn) w w6 := ⟨hgrow6.os.trans hb56.os, hgrow6.tape.trans hb56.tape, hgrow6.output.trans hb56.output, Nat.le_trans hb56.size hgrow6.size, fun b hb hx => (hgrow6.block b (Nat.lt_of_lt_of_le hb hb56.size) (fun h => by have := HOWN5.out b h.symm; omega)).trans (hb56.block b hb hx)⟩
            have HSN := Lib.hid hsnoc
            have HBL6 := Lib.hid hblk6
            have HBU6 := Lib.hid hbut6
            clear hown6 hgrow6 hat6 hlt6 hsnoc hblk6 hbut6 hb56
            go_wp2_with fail
            have hcnt := few_cnt x.kids (deep - 1) (m - 1)
            exact ⟨⟨k + 1, (fewL (deep - 1) (m - 1) x.kids).2, done ++ [cutN x (fewL (deep - 1) (m - 1) x.kids).1], by simp, by omega, by omega, HSN, HBL6, HBU6, Lib.hid (by rw [HG.out]; simp), by rw [List.length_append]; simp; omega⟩, by simp only [intOf]; omega⟩
  · obtain rfl : k = n := by omega
    have hdec : decide ((k : Int) < (k : Int)) = false := by simp
    have HG : Hid (R = (done, m)) := Lib.hid (by rw [hgo.out, List.drop_eq_nil_of_le (by rw [HN.out]; exact Nat.le_refl _), fewL_nil]; simp)
    clear hgo
    go_wp2_with fail
    go_ret
    exact ⟨_, rfl, by rw [HG.out]; exact hown.out, by rw [HG.out]; exact hblk.out, hbut.out⟩
theorem few_all (B0 kn : Nat) : ∀ (m : Nat) (l : List Nd), cntL l < m → FewOk B0 kn l
 | 0, l, h => by omega
 | m + 1, l, h => few_step B0 kn l (fun y hy => few_all B0 kn m y.kids (by have := cnt_mem hy; omega))
theorem few_any (B0 kn : Nat) (l : List Nd) : FewOk B0 kn l := few_all B0 kn (cntL l + 1) l (by omega)
end Tr
end Go.Proofs.YtfbhokdcnjekiaaGreatDoor
