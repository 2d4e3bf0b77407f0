/- Chapter 08, the walk: sorted: a map's keys, as they rise. -/
import Derived.Test.YtojblndlchcjeaaHpTx
import Derived.Test.YtojblndlchcjeaaHpTz
import Derived.Test.YtojblndlchcjeaaHpW7
set_option linter.unusedVariables false
namespace Go.Proofs.Ytojblndlchcjeaa
open Go.RowKit
open Go.Maps
namespace Hp
open Bs Sm
theorem rises_pair {T : List Bts} (h : Rises T) : T.Pairwise (· < ·) := by
  rw [List.pairwise_iff_getElem]
  intro i j hi hj hij
  exact h i j _ _ (List.getElem?_eq_getElem hi) (List.getElem?_eq_getElem hj) hij
theorem rises_eq {T L : List Bts} (h : Rises T) (h' : Rises L) (hm : ∀ x, x ∈ L ↔ x ∈ T) : L = T := by
  have nd : ∀ {X : List Bts}, Rises X → X.Nodup := fun h => (rises_pair h).imp (fun hlt e => by rw [e] at hlt; exact List.lt_irrefl _ hlt)
  have hp : L.Perm T := (List.perm_ext_iff_of_nodup (nd h') (nd h)).2 hm
  exact List.Perm.eq_of_pairwise (le := fun a b => a < b) (fun a b _ _ h1 h2 => absurd (List.lt_trans h1 h2) (List.lt_irrefl _)) (rises_pair h') (rises_pair h) hp
theorem nodup_le : ∀ {L T : List Bts}, L.Nodup → (∀ x ∈ L, x ∈ T) → L.length ≤ T.length
  | [], T, _, _ => Nat.zero_le _
  | x :: L, T, hn, hs => by
    have hx := hs x (List.mem_cons_self ..)
    obtain ⟨h1, h2⟩ := List.nodup_cons.1 hn
    have ih := nodup_le (L := L) (T := T.erase x) h2 fun y hy => (List.mem_erase_of_ne (fun e => h1 (by rw [← e]; exact hy))).2 (hs y (List.mem_cons_of_mem _ hy))
    rw [List.length_erase_of_mem hx] at ih
    have : 0 < T.length := List.length_pos_of_mem hx
    rw [List.length_cons]; omega
theorem rises_nodup {X : List Bts} (h : Rises X) : X.Nodup := (rises_pair h).imp (fun hlt e => by rw [e] at hlt; exact List.lt_irrefl _ hlt)
def SortR (T : List Bts) (w : World) (e : Ending) (w' : World) : Prop := ∃ v, e = .returned v ∧ OwnS w.heap.size w' v T ∧ Below w.heap.size w w'
set_option maxRecDepth 100000 in
set_option maxHeartbeats 800000 in
theorem sorted_any (b n : Nat) (f : Bts → Int) (g : Bts → Bool) (T : List Bts) (w : World) (hm : SymM b n f g w) (hT : Rises T) (hg : ∀ x, x.length ≤ maxLen → (g x = true ↔ x ∈ T)) (hTl : T.length ≤ 1000) (hsl : ∀ x ∈ T, x.length ≤ 1000) :
    Calls Try.prog 45 #[.map (some b)] w (SortR T w) := by
  obtain ⟨D, hown, hD⟩ := hm
  have hbl := hown.lt
  have HOWN := Lib.hid hown
  have HD := Lib.hid hD
  have HT := Lib.hid hT
  have HG := Lib.hid hg
  have HTL := Lib.hid hTl
  have HSL := Lib.hid hsl
  have K := string_keyed (P := Try.prog) (k := 9) (by kernel_rfl)
  have hks : Try.prog.underlying 9 = some .string := by kernel_rfl
  have heu : Try.prog.underlying UT = some (.int .u64) := by kernel_rfl
  clear hD hT hg hTl hsl
  go_enter Try.func45, Try.ntmps45
  go_wp2_with (first
    | (at_range; refine wpList_range_own _ rfl _ MT rfl 9 UT K (by kernel_rfl) _ b n _ rfl hown ?_; intro w0 hrg0 hg0 hs0)
    | go_in)
  try go_frame
  clear hown
  have HRG := Lib.hid hrg0
  have HB0 : Hid (Below w.heap.size w w0) := Lib.hid ((Below.refl _ w).grown hg0 (Nat.le_refl _) (fun j hj => by cases hj))
  have hs0' : w0.heap.size = w.heap.size + 1 := hs0
  clear hrg0 hg0
  go_loopw [3] (fun x wr => ∃ (left : Lit → Bool) (cnt : Nat) (ss L : List Bts), wr.ranges Try.prog 9 (plainElem Try.prog UT) b w.heap.size n D left cnt ∧ Hid (Collected D left ss ∧ Rises L ∧ (∀ y, y ∈ L ↔ y ∈ ss) ∧ OwnS (w.heap.size + 1) wr x L ∧ Below w.heap.size w wr ∧ w.heap.size + 1 ≤ wr.heap.size))
    (fun _ wr => wr.rangeLeft b w.heap.size)
  case atStart =>
    exact ⟨_, _, [], [], HRG.out, Lib.hid ⟨Collected.start D, fun i j x y h => by simp at h, fun y => Iff.rfl, World.ownsRow_nil _ _ _ _, HB0.out, Nat.le_of_eq hs0'.symm⟩⟩
  case round =>
    obtain ⟨left, cnt, ss, L, hrg, hI⟩ := hrel
    go_wp2_with (first
      | (at_next; refine wpList_next_ranges _ rfl _ rfl 9 K (plainElem Try.prog UT) encStr (Value.int .u64) (fun key kl h => by obtain ⟨x, hx, _⟩ := Maps.keyOf_str hks h; exact ⟨x, hx⟩) (fun v y hv => by obtain ⟨c, rfl, _⟩ := plainElem_int_inv heu hv; exact ⟨c, rfl⟩) b w.heap.size n _ _ _ rfl hrg ?_ ?_)
      | go_in)
    · intro hc0 hl0
      obtain ⟨hC, hR, hM, hO, hB, hSz⟩ := hI.out
      have hP := hC.perm HOWN.out K hks hl0
      have hLT : L = T := rises_eq HT.out hR fun x => by
        rw [hM x]
        constructor
        · intro hx
          have hl := strKeys_le HOWN.out hks x (hP.subset hx)
          exact (HG.out x hl).1 (by rw [← (HD.out x hl).2]; exact ((hC.2 x).1 hx).1)
        · intro hx
          have hl : x.length ≤ maxLen := by have := HSL.out x hx; unfold maxLen; omega
          exact (hC.2 x).2 ⟨by rw [(HD.out x hl).2]; exact (HG.out x hl).2 hx, hl0 _⟩
      have HF : Hid (OwnS w.heap.size wr u3 T ∧ Below w.heap.size w wr) := Lib.hid ⟨by rw [← hLT]; exact own_mono hO (Nat.le_succ _), hB⟩
      clear hC hR hM hO hB hP hLT hI
      go_wp2_with fail
      go_ret
      exact ⟨_, rfl, HF.out⟩
    · intro x c kl y y2 w1 cnt1 hkey hlk hRv hat hrg1 hlt hg1 hs1 hen
      obtain ⟨x', ex, rfl, hxl⟩ := Maps.keyOf_str hks hkey
      obtain rfl := encStr_inj ex
      obtain ⟨hC, hR, hM, hO, hB, hSz⟩ := hI.out
      have hC1 := hC.step hlk hat
      have hxs : x ∉ ss := fun hx => by have := ((hC.2 x).1 hx).2; rw [hlk] at this; cases this
      have hxL : x ∉ L := fun h => hxs ((hM x).1 h)
      have hLs : ∀ z ∈ L, z ∈ T := fun z hz => by
        have h1 := ((hC.2 z).1 ((hM z).1 hz)).1
        have hl : z.length ≤ maxLen := by
          obtain ⟨es, hD2, hko⟩ := HOWN.out.keysOf
          have hz2 : z ∈ strKeys D := by
            rw [hD2] at h1 ⊢
            rw [has_eq, List.any_eq_true] at h1
            obtain ⟨p, hp, hsk⟩ := h1
            obtain ⟨v, hv⟩ := hko p hp
            obtain ⟨a, _, ha, _⟩ := Maps.keyOf_str hks hv
            refine List.mem_map.2 ⟨p, hp, ?_⟩
            rw [ha] at hsk ⊢
            simpa [Lit.sameKey, strOf] using hsk
          exact strKeys_le HOWN.out hks z hz2
        exact (HG.out z hl).1 (by rw [← (HD.out z hl).2]; exact h1)
      have hxT : x ∈ T := (HG.out x hxl).1 (by rw [← (HD.out x hxl).2]; exact has_true_of_atKey hat)
      have hLl : L.length ≤ 1000 := Nat.le_trans (nodup_le (rises_nodup hR) hLs) HTL.out
      have hO1 : OwnS (w.heap.size + 1) w1 u3 L := hO.kept hg1 (.inr fun e => by have := (World.ownsRow.lt hO _ e).1; omega)
      have hB1 : Below w.heap.size w w1 := hB.grown hg1 hB.size (fun j hj => by cases hj; exact Nat.le_refl _)
      obtain ⟨q, hq⟩ : ∃ q, spotL L x = q := ⟨_, rfl⟩
      have hqle := spot_le L x
      obtain ⟨la, lc, rfl⟩ := hO1.form
      obtain ⟨m, hm⟩ : ∃ m, L.length = m := ⟨_, rfl⟩
      have HM := Lib.hid hm
      have hlcm : L.length ≤ lc ∧ lc ≤ maxLen := own_caps hO1
      unfold maxLen at hlcm
      rw [hm] at hLl hqle hO1 hlcm ⊢
      rw [hq] at hqle
      have HQ := Lib.hid hq
      have HR := Lib.hid hR
      have HO := Lib.hid hO1
      have HB := Lib.hid hB1
      have HI2 : Hid (Collected D (fun z => left z && !z.sameKey (.string x)) (ss ++ [x]) ∧ Rises (insL L x) ∧ (∀ y, y ∈ insL L x ↔ y ∈ ss ++ [x])) := Lib.hid ⟨hC1, ins_rises hR x hxL, fun y => by rw [ins_mem, List.mem_append, List.mem_singleton, hM y]; exact ⟨fun h => h.elim .inr .inl, fun h => h.elim .inr .inl⟩⟩
      have HRG1 := Lib.hid hrg1
      have HRGr := Lib.hid hrg
      have HLT := Lib.hid hlt
      have HSZ := Lib.hid hSz
      have HS1 := Lib.hid hs1
      clear hC hR hM hO hB hC1 hxs hxL hLs hxT hI hO1 hB1 hq hm hat hlk hRv hkey hxl hrg1 hrg hg1 hlt hs1 hs0 hs0' hSz
      unfold encStr at hen ⊢
      go_wp2_with fail
      go_loop [5] (fun z => ∃ k : Nat, z = .int .i64 (k : Int) ∧ k ≤ q) (fun z => q - (intOf z).toNat)
      case atStart => exact ⟨0, rfl, Nat.zero_le _⟩
      case round =>
        obtain ⟨k, rfl, hk⟩ := hrel
        have hk1000 : (k : Int) ≤ 1000 := by omega
        have hm1000 : (m : Int) ≤ 1000 := by omega
        by_cases hkq : k < q
        · obtain ⟨z, hz⟩ : ∃ z, L[k]? = some z := ⟨_, List.getElem?_eq_getElem (by rw [HM.out]; omega)⟩
          have hzx : z < x := by
            have := (below_iff HR.out x k (by rw [HM.out]; omega)).2 (by rw [HQ.out]; exact hkq)
            unfold below at this
            rw [getD_of hz] at this
            simpa using this
          obtain ⟨gg, hgg, -⟩ := (own_len HO.out).2 (by rw [HM.out]; omega)
          subst hgg
          have hcl := World.ownsRow.cells HO.out (g := gg) rfl k _ (by rw [List.getElem?_map, hz]; rfl)
          rw [addr_add] at hcl
          unfold strV at hcl
          have e1 : decide ((k : Int) < (m : Int)) = true := decide_eq_true (by omega)
          have e2 : (k : Int) < (m : Int) := by omega
          have e3 : Op.bytesLess z x = true := by rw [bytesLess_eq]; exact decide_eq_true hzx
          clear hz hzx
          go_wp2_with fail
          exact ⟨⟨k + 1, by simp, by omega⟩, by simp only [intOf]; omega⟩
        · obtain rfl : k = q := by omega
          have hcase : (k = m) ∨ (k < m ∧ ∃ z gg, la = some ⟨gg, 0, none⟩ ∧ w1.cell? ⟨gg, k, none⟩ = some (.string ⟨z.toArray⟩) ∧ Op.bytesLess z x = false) := by
            by_cases h : k = m
            · exact .inl h
            · have hlt : k < m := by omega
              obtain ⟨z, hz⟩ : ∃ z, L[k]? = some z := ⟨_, List.getElem?_eq_getElem (by rw [HM.out]; omega)⟩
              obtain ⟨gg, hgg, -⟩ := (own_len HO.out).2 (by rw [HM.out]; omega)
              have hcl := World.ownsRow.cells HO.out (g := gg) (by rw [hgg]; rfl) k _ (by rw [List.getElem?_map, hz]; rfl)
              rw [addr_add] at hcl
              refine .inr ⟨hlt, z, gg, hgg, hcl, ?_⟩
              rw [bytesLess_eq]
              refine decide_eq_false fun hzx => ?_
              have := (below_iff HR.out x k (by rw [HM.out]; omega)).1 (by unfold below; rw [getD_of hz]; simpa using hzx)
              rw [HQ.out] at this
              omega
          have hkm2 : k ≤ m := hqle
          have hkm3 : (k : Int) ≤ (m : Int) := by omega
          have hmlc : m ≤ lc := hlcm.1
          have hklc : k ≤ lc := by omega
          have HRdd : ∀ gg, la = some ⟨gg, 0, none⟩ → Hid (Rd (fun b => b < w1.drew.heap.size) strV w1.drew (.slice (some ⟨gg, 0, none⟩) k lc) (L.take k) ∧ Rd (fun b => b < w1.drew.heap.size) strV w1.drew (.slice (some ⟨gg, k, none⟩) (m - k) (lc - k)) (L.drop k)) := fun gg e => Lib.hid (by
            subst e
            have h0 : Rd (fun b => b < w1.drew.heap.size) strV w1.drew (.slice (some ⟨gg, 0, none⟩) m lc) L := (Rd.own (f := strV) (v := .slice (some ⟨gg, 0, none⟩) m lc) HO.out).mono (fun b _ hl => hl)
            have h2 := h0.drop k hkm2
            rw [Nat.zero_add] at h2
            exact ⟨h0.cut k hkm2, h2⟩)
          have hla : la = none ∨ ∃ gg, la = some ⟨gg, 0, none⟩ := by
            rcases HO.out.2 with ⟨e, -⟩ | ⟨g1, cap1, cur1, e, -⟩
            · cases e; exact .inl rfl
            · cases e; exact .inr ⟨g1, rfl⟩
          rcases hcase with hkm | ⟨hkm, z, gg, rfl, hcl, e3⟩
          · have e1 : decide ((k : Int) < (m : Int)) = false := decide_eq_false (by omega)
            have e2 : ¬ (k : Int) < (m : Int) := by omega
            have e4 : decide (k < m) = false := decide_eq_false (by omega)
            have e5 : ¬ k < m := by omega
            have hkm9 := hkm
            clear hkm
            rcases hla with rfl | ⟨gg, rfl⟩
            · have hm0 : m = 0 ∧ lc = 0 := by
                rcases HO.out.2 with ⟨e, -⟩ | ⟨g1, cap1, cur1, e, -⟩
                · injection e with q1 q2 q3; exact ⟨q2, q3⟩
                · cases e
              obtain ⟨rfl, rfl⟩ := hm0
              obtain rfl : k = 0 := by omega
              have hL0 : L = [] := List.eq_nil_of_length_eq_zero HM.out
              have HRd : Hid (Rd (fun b => b < w1.drew.heap.size) strV w1.drew (.slice none 0 0) (L.take 0) ∧ Rd (fun b => b < w1.drew.heap.size) strV w1.drew (.slice none 0 0) (L.drop 0)) := Lib.hid (by rw [hL0]; exact ⟨Rd.nil _ _ _, Rd.nil _ _ _⟩)
              clear HRdd e1 e2 e4 e5 hkm9 hkm2 hkm3 hmlc hklc hL0
              have HT4 : Rd (fun b => b < w1.drew.heap.size) strV w1.drew (.slice none 0 0) (L.take 0) := HRd.out.1
              have HD4 : Rd (fun b => b < w1.drew.heap.size) strV w1.drew (.slice none 0 0) (L.drop 0) := HRd.out.2
              have HLL : L.length ≤ 1000 := by rw [HM.out]; exact hLl
              have HX : Hid (∀ v7 w7, OwnS w1.drew.heap.size w7 v7 (L.take 0 ++ x :: L.drop 0) → Below w1.drew.heap.size w1.drew w7 → ∃ (left' : Lit → Bool) (cnt' : Nat) (ss' L' : List Bts), w7.ranges Try.prog 9 (plainElem Try.prog UT) b w.heap.size n D left' cnt' ∧ cnt' < cnt ∧ Hid (Collected D left' ss' ∧ Rises L' ∧ (∀ y, y ∈ L' ↔ y ∈ ss') ∧ OwnS (w.heap.size + 1) w7 v7 L' ∧ Below w.heap.size w w7 ∧ w.heap.size + 1 ≤ w7.heap.size)) := Lib.hid (fun v7 w7 o7 b7 => by
                have b17 : Below w1.heap.size w1 w7 := (below_drewN w1 1).trans b7
                have hr := HRG1.out.kept (w' := w7) (row := none) ⟨b17.os, b17.tape, b17.output, b17.size, fun i hi _ => b17.block i hi⟩ (by simp) (by simp)
                refine ⟨_, _, ss ++ [x], insL L x, hr, HLT.out, Lib.hid ⟨HI2.out.1, HI2.out.2.1, HI2.out.2.2, ?_, HB.out.trans (b17.mono HB.out.size), Nat.le_trans (HS1.out ▸ HSZ.out) b17.size⟩⟩
                unfold insL
                rw [HQ.out]
                exact own_mono o7 (show w.heap.size + 1 ≤ w1.heap.size by rw [HS1.out]; exact HSZ.out))
              obtain ⟨v4, w4, v6, w6, v7, w7, r4, r6, r7, o7, b7⟩ := ord1 (x := x) HT4 HD4 HLL
              obtain ⟨y4, z4, y6, z6, y7, z7, s4, s6, s7, p7, c7⟩ := ord2 (x := x) HT4 HD4 HLL
              obtain ⟨t4, q4, t6, q6, t7, q7, u4, u6, u7, o8, b8⟩ := ord3 (x := x) HT4 HD4 HLL
              dsimp only [mtS, oneS, slS] at r4 r6 r7 s4 s6 s7 u4 u6 u7
              obtain ⟨W1, hal1⟩ : ∃ W1, w1.drew.alloc (.cells #[] ST1) = W1 := ⟨_, rfl⟩
              obtain ⟨W2, hal2⟩ : ∃ W2, w1.drew.alloc (.cells #[.string ⟨x.toArray⟩] ST1) = W2 := ⟨_, rfl⟩
              obtain ⟨W3, hal3⟩ : ∃ W3, w4.alloc (.cells #[.string ⟨x.toArray⟩] ST1) = W3 := ⟨_, rfl⟩
              obtain ⟨W4, hal4⟩ : ∃ W4, W1.alloc (.cells #[.string ⟨x.toArray⟩] ST1) = W4 := ⟨_, rfl⟩
              obtain ⟨W5, hal5⟩ : ∃ W5, W2.alloc (.cells #[] ST1) = W5 := ⟨_, rfl⟩
              rw [hal1] at r4 s4 s6
              rw [hal2] at u4
              rw [hal3] at r6
              rw [hal4] at s4
              rw [hal5] at u4
              have R4 := Lib.hid r4
              have R6 := Lib.hid r6
              have R7 := Lib.hid r7
              have S4 := Lib.hid s4
              have S6 := Lib.hid s6
              have S7 := Lib.hid s7
              have U4 := Lib.hid u4
              have U6 := Lib.hid u6
              have U7 := Lib.hid u7
              have E1 := Lib.hid (HX.out _ _ o7 b7)
              have E2 := Lib.hid (HX.out _ _ p7 c7)
              have E3 := Lib.hid (HX.out _ _ o8 b8)
              clear r4 r6 r7 s4 s6 s7 u4 u6 u7 o7 b7 p7 c7 o8 b8 HT4 HD4 HX
              go_wp2_with fail
              refine wp_region_noPanic ?_
              refine Hd.start (fun _ => True) (by kernel_rfl) trivial (fun hH0 => ?_)
              refine Hd.tk 1 3 hH0 ?_
              refine Hd.tk 2 3 hH0 ?_
              refine Hd.tk 3 4 hH0 ?_
              refine Hd.tk 5 6 hH0 ?_
              refine Hd.tk 8 10 hH0 ?_
              refine Hd.tk 9 10 hH0 ?_
              refine Hd.tk 10 11 hH0 ?_
              refine Hd.two 0 6 (o := ?_) (p := ?_) ?_ ?_ (by kernel_rfl) (fun K hK => ?_) (fun K hK => ?_)
              rotate_left 2
              · simp only [List.getElem?_toArray, List.getElem?_cons_zero]
                exact rfl
              · simp only [List.getElem?_toArray, List.getElem?_cons_succ, List.getElem?_cons_zero]
                exact rfl
              · go_simp
                refine hK.out _ _ trivial (fun hH1 => ?_)
                clear hK K
                try simp only [Act.put, List.setIfInBounds_toArray, List.set_cons_zero, List.set_cons_succ]
                refine Hd.two 4 6 (o := ?_) (p := ?_) ?_ ?_ (by kernel_rfl) (fun K hK => ?_) (fun K hK => ?_)
                rotate_left 2
                · simp only [List.getElem?_toArray, List.getElem?_cons_succ, List.getElem?_cons_zero]
                  exact rfl
                · simp only [List.getElem?_toArray, List.getElem?_cons_succ, List.getElem?_cons_zero]
                  exact rfl
                · refine step_app rfl _ _ _ rfl _ _ _ _ rfl rfl R4.out ?_
                  refine hK.out _ _ trivial (fun hH2 => ?_)
                  clear hK K
                  try simp only [Act.put, List.setIfInBounds_toArray, List.set_cons_zero, List.set_cons_succ]
                  refine Hd.on 6 (fun K hK => ?_)
                  go_simp
                  refine hK.out _ _ trivial (fun hH3 => ?_)
                  clear hK K
                  try simp only [Act.put, List.setIfInBounds_toArray, List.set_cons_zero, List.set_cons_succ]
                  refine Hd.on 7 (fun K hK => ?_)
                  refine step_app rfl _ _ _ rfl _ _ _ _ rfl rfl R6.out ?_
                  refine hK.out _ _ trivial (fun hG1 => ?_)
                  clear hK K
                  try simp only [Act.put, List.setIfInBounds_toArray, List.set_cons_zero, List.set_cons_succ]
                  refine Hd.on 11 (fun K hK => ?_)
                  refine step_app rfl _ _ _ rfl _ _ _ _ rfl rfl R7.out ?_
                  refine hK.out _ _ trivial (fun hG2 => ?_)
                  clear hK K
                  try simp only [Act.put, List.setIfInBounds_toArray, List.set_cons_zero, List.set_cons_succ]
                  refine Hd.la 12 (fun K hK => ?_)
                  go_simp
                  refine hK.out _ _ ?_
                  clear hK K
                  try simp only [Act.put, List.setIfInBounds_toArray, List.set_cons_zero, List.set_cons_succ]
                  simp only [NoPanic]
                  go_wp2_with fail
                  obtain ⟨left', cnt', ss', L', e1, e2, e3⟩ := E1.out
                  go_roundw
                  case rel => exact ⟨left', cnt', ss', L', e1, e3⟩
                  case measure => rw [e1.left_eq, HRGr.out.left_eq]; exact e2
                · go_simp
                  refine hK.out _ _ trivial (fun hH2 => ?_)
                  clear hK K
                  try simp only [Act.put, List.setIfInBounds_toArray, List.set_cons_zero, List.set_cons_succ]
                  refine Hd.on 4 (fun K hK => ?_)
                  refine step_app rfl _ _ _ rfl _ _ _ _ rfl rfl S4.out ?_
                  refine hK.out _ _ trivial (fun hH3 => ?_)
                  clear hK K
                  try simp only [Act.put, List.setIfInBounds_toArray, List.set_cons_zero, List.set_cons_succ]
                  refine Hd.on 7 (fun K hK => ?_)
                  refine step_app rfl _ _ _ rfl _ _ _ _ rfl rfl S6.out ?_
                  refine hK.out _ _ trivial (fun hG1 => ?_)
                  clear hK K
                  try simp only [Act.put, List.setIfInBounds_toArray, List.set_cons_zero, List.set_cons_succ]
                  refine Hd.on 11 (fun K hK => ?_)
                  refine step_app rfl _ _ _ rfl _ _ _ _ rfl rfl S7.out ?_
                  refine hK.out _ _ trivial (fun hG2 => ?_)
                  clear hK K
                  try simp only [Act.put, List.setIfInBounds_toArray, List.set_cons_zero, List.set_cons_succ]
                  refine Hd.la 12 (fun K hK => ?_)
                  go_simp
                  refine hK.out _ _ ?_
                  clear hK K
                  try simp only [Act.put, List.setIfInBounds_toArray, List.set_cons_zero, List.set_cons_succ]
                  simp only [NoPanic]
                  go_wp2_with fail
                  obtain ⟨left', cnt', ss', L', e1, e2, e3⟩ := E2.out
                  go_roundw
                  case rel => exact ⟨left', cnt', ss', L', e1, e3⟩
                  case measure => rw [e1.left_eq, HRGr.out.left_eq]; exact e2
              · go_simp
                refine hK.out _ _ trivial (fun hH1 => ?_)
                clear hK K
                try simp only [Act.put, List.setIfInBounds_toArray, List.set_cons_zero, List.set_cons_succ]
                refine Hd.on 0 (fun K hK => ?_)
                go_simp
                refine hK.out _ _ trivial (fun hH2 => ?_)
                clear hK K
                try simp only [Act.put, List.setIfInBounds_toArray, List.set_cons_zero, List.set_cons_succ]
                refine Hd.on 4 (fun K hK => ?_)
                refine step_app rfl _ _ _ rfl _ _ _ _ rfl rfl U4.out ?_
                refine hK.out _ _ trivial (fun hH3 => ?_)
                clear hK K
                try simp only [Act.put, List.setIfInBounds_toArray, List.set_cons_zero, List.set_cons_succ]
                refine Hd.on 7 (fun K hK => ?_)
                refine step_app rfl _ _ _ rfl _ _ _ _ rfl rfl U6.out ?_
                refine hK.out _ _ trivial (fun hG1 => ?_)
                clear hK K
                try simp only [Act.put, List.setIfInBounds_toArray, List.set_cons_zero, List.set_cons_succ]
                refine Hd.on 11 (fun K hK => ?_)
                refine step_app rfl _ _ _ rfl _ _ _ _ rfl rfl U7.out ?_
                refine hK.out _ _ trivial (fun hG2 => ?_)
                clear hK K
                try simp only [Act.put, List.setIfInBounds_toArray, List.set_cons_zero, List.set_cons_succ]
                refine Hd.la 12 (fun K hK => ?_)
                go_simp
                refine hK.out _ _ ?_
                clear hK K
                try simp only [Act.put, List.setIfInBounds_toArray, List.set_cons_zero, List.set_cons_succ]
                simp only [NoPanic]
                go_wp2_with fail
                obtain ⟨left', cnt', ss', L', e1, e2, e3⟩ := E3.out
                go_roundw
                case rel => exact ⟨left', cnt', ss', L', e1, e3⟩
                case measure => rw [e1.left_eq, HRGr.out.left_eq]; exact e2
            · by_cases hcap : lc = k
              · obtain rfl : m = k := by omega
                subst hcap
                have HRd : Hid (Rd (fun b => b < w1.drew.heap.size) strV w1.drew (.slice (some ⟨gg, 0, none⟩) lc lc) (L.take lc) ∧ Rd (fun b => b < w1.drew.heap.size) strV w1.drew (.slice (some ⟨gg, 0, none⟩) 0 0) (L.drop lc)) := Lib.hid (by
                  refine ⟨(HRdd gg rfl).out.1, ?_⟩
                  rw [List.drop_eq_nil_of_le (by rw [HM.out]; exact Nat.le_refl _)]
                  exact Rd.none_ _ _ (by unfold maxLen; omega))
                clear HRdd
                have HT4 : Rd (fun b => b < w1.drew.heap.size) strV w1.drew (.slice (some ⟨gg, 0, none⟩) lc lc) (L.take lc) := HRd.out.1
                have HD4 : Rd (fun b => b < w1.drew.heap.size) strV w1.drew (.slice (some ⟨gg, 0, none⟩) 0 0) (L.drop lc) := HRd.out.2
                have HLL : L.length ≤ 1000 := by rw [HM.out]; exact hLl
                have HX : Hid (∀ v7 w7, OwnS w1.drew.heap.size w7 v7 (L.take lc ++ x :: L.drop lc) → Below w1.drew.heap.size w1.drew w7 → ∃ (left' : Lit → Bool) (cnt' : Nat) (ss' L' : List Bts), w7.ranges Try.prog 9 (plainElem Try.prog UT) b w.heap.size n D left' cnt' ∧ cnt' < cnt ∧ Hid (Collected D left' ss' ∧ Rises L' ∧ (∀ y, y ∈ L' ↔ y ∈ ss') ∧ OwnS (w.heap.size + 1) w7 v7 L' ∧ Below w.heap.size w w7 ∧ w.heap.size + 1 ≤ w7.heap.size)) := Lib.hid (fun v7 w7 o7 b7 => by
                  have b17 : Below w1.heap.size w1 w7 := (below_drewN w1 1).trans b7
                  have hr := HRG1.out.kept (w' := w7) (row := none) ⟨b17.os, b17.tape, b17.output, b17.size, fun i hi _ => b17.block i hi⟩ (by simp) (by simp)
                  refine ⟨_, _, ss ++ [x], insL L x, hr, HLT.out, Lib.hid ⟨HI2.out.1, HI2.out.2.1, HI2.out.2.2, ?_, HB.out.trans (b17.mono HB.out.size), Nat.le_trans (HS1.out ▸ HSZ.out) b17.size⟩⟩
                  unfold insL
                  rw [HQ.out]
                  exact own_mono o7 (show w.heap.size + 1 ≤ w1.heap.size by rw [HS1.out]; exact HSZ.out))
                obtain ⟨v4, w4, v6, w6, v7, w7, r4, r6, r7, o7, b7⟩ := ord1 (x := x) HT4 HD4 HLL
                obtain ⟨y4, z4, y6, z6, y7, z7, s4, s6, s7, p7, c7⟩ := ord2 (x := x) HT4 HD4 HLL
                obtain ⟨t4, q4, t6, q6, t7, q7, u4, u6, u7, o8, b8⟩ := ord3 (x := x) HT4 HD4 HLL
                dsimp only [mtS, oneS, slS] at r4 r6 r7 s4 s6 s7 u4 u6 u7
                obtain ⟨W1, hal1⟩ : ∃ W1, w1.drew.alloc (.cells #[] ST1) = W1 := ⟨_, rfl⟩
                obtain ⟨W2, hal2⟩ : ∃ W2, w1.drew.alloc (.cells #[.string ⟨x.toArray⟩] ST1) = W2 := ⟨_, rfl⟩
                obtain ⟨W3, hal3⟩ : ∃ W3, w4.alloc (.cells #[.string ⟨x.toArray⟩] ST1) = W3 := ⟨_, rfl⟩
                obtain ⟨W4, hal4⟩ : ∃ W4, W1.alloc (.cells #[.string ⟨x.toArray⟩] ST1) = W4 := ⟨_, rfl⟩
                obtain ⟨W5, hal5⟩ : ∃ W5, W2.alloc (.cells #[] ST1) = W5 := ⟨_, rfl⟩
                rw [hal1] at r4 s4 s6
                rw [hal2] at u4
                rw [hal3] at r6
                rw [hal4] at s4
                rw [hal5] at u4
                have R4 := Lib.hid r4
                have R6 := Lib.hid r6
                have R7 := Lib.hid r7
                have S4 := Lib.hid s4
                have S6 := Lib.hid s6
                have S7 := Lib.hid s7
                have U4 := Lib.hid u4
                have U6 := Lib.hid u6
                have U7 := Lib.hid u7
                have E1 := Lib.hid (HX.out _ _ o7 b7)
                have E2 := Lib.hid (HX.out _ _ p7 c7)
                have E3 := Lib.hid (HX.out _ _ o8 b8)
                clear r4 r6 r7 s4 s6 s7 u4 u6 u7 o7 b7 p7 c7 o8 b8 HT4 HD4 HX
                go_wp2_with fail
                refine wp_region_noPanic ?_
                refine Hd.start (fun _ => True) (by kernel_rfl) trivial (fun hH0 => ?_)
                refine Hd.tk 1 3 hH0 ?_
                refine Hd.tk 2 3 hH0 ?_
                refine Hd.tk 3 4 hH0 ?_
                refine Hd.tk 5 6 hH0 ?_
                refine Hd.tk 8 10 hH0 ?_
                refine Hd.tk 9 10 hH0 ?_
                refine Hd.tk 10 11 hH0 ?_
                refine Hd.two 0 6 (o := ?_) (p := ?_) ?_ ?_ (by kernel_rfl) (fun K hK => ?_) (fun K hK => ?_)
                rotate_left 2
                · simp only [List.getElem?_toArray, List.getElem?_cons_zero]
                  exact rfl
                · simp only [List.getElem?_toArray, List.getElem?_cons_succ, List.getElem?_cons_zero]
                  exact rfl
                · go_simp
                  refine hK.out _ _ trivial (fun hH1 => ?_)
                  clear hK K
                  try simp only [Act.put, List.setIfInBounds_toArray, List.set_cons_zero, List.set_cons_succ]
                  refine Hd.two 4 6 (o := ?_) (p := ?_) ?_ ?_ (by kernel_rfl) (fun K hK => ?_) (fun K hK => ?_)
                  rotate_left 2
                  · simp only [List.getElem?_toArray, List.getElem?_cons_succ, List.getElem?_cons_zero]
                    exact rfl
                  · simp only [List.getElem?_toArray, List.getElem?_cons_succ, List.getElem?_cons_zero]
                    exact rfl
                  · refine step_app rfl _ _ _ rfl _ _ _ _ rfl rfl R4.out ?_
                    refine hK.out _ _ trivial (fun hH2 => ?_)
                    clear hK K
                    try simp only [Act.put, List.setIfInBounds_toArray, List.set_cons_zero, List.set_cons_succ]
                    refine Hd.on 6 (fun K hK => ?_)
                    go_simp
                    refine hK.out _ _ trivial (fun hH3 => ?_)
                    clear hK K
                    try simp only [Act.put, List.setIfInBounds_toArray, List.set_cons_zero, List.set_cons_succ]
                    refine Hd.on 7 (fun K hK => ?_)
                    refine step_app rfl _ _ _ rfl _ _ _ _ rfl rfl R6.out ?_
                    refine hK.out _ _ trivial (fun hG1 => ?_)
                    clear hK K
                    try simp only [Act.put, List.setIfInBounds_toArray, List.set_cons_zero, List.set_cons_succ]
                    refine Hd.on 11 (fun K hK => ?_)
                    refine step_app rfl _ _ _ rfl _ _ _ _ rfl rfl R7.out ?_
                    refine hK.out _ _ trivial (fun hG2 => ?_)
                    clear hK K
                    try simp only [Act.put, List.setIfInBounds_toArray, List.set_cons_zero, List.set_cons_succ]
                    refine Hd.la 12 (fun K hK => ?_)
                    go_simp
                    refine hK.out _ _ ?_
                    clear hK K
                    try simp only [Act.put, List.setIfInBounds_toArray, List.set_cons_zero, List.set_cons_succ]
                    simp only [NoPanic]
                    go_wp2_with fail
                    obtain ⟨left', cnt', ss', L', e1, e2, e3⟩ := E1.out
                    go_roundw
                    case rel => exact ⟨left', cnt', ss', L', e1, e3⟩
                    case measure => rw [e1.left_eq, HRGr.out.left_eq]; exact e2
                  · go_simp
                    refine hK.out _ _ trivial (fun hH2 => ?_)
                    clear hK K
                    try simp only [Act.put, List.setIfInBounds_toArray, List.set_cons_zero, List.set_cons_succ]
                    refine Hd.on 4 (fun K hK => ?_)
                    refine step_app rfl _ _ _ rfl _ _ _ _ rfl rfl S4.out ?_
                    refine hK.out _ _ trivial (fun hH3 => ?_)
                    clear hK K
                    try simp only [Act.put, List.setIfInBounds_toArray, List.set_cons_zero, List.set_cons_succ]
                    refine Hd.on 7 (fun K hK => ?_)
                    refine step_app rfl _ _ _ rfl _ _ _ _ rfl rfl S6.out ?_
                    refine hK.out _ _ trivial (fun hG1 => ?_)
                    clear hK K
                    try simp only [Act.put, List.setIfInBounds_toArray, List.set_cons_zero, List.set_cons_succ]
                    refine Hd.on 11 (fun K hK => ?_)
                    refine step_app rfl _ _ _ rfl _ _ _ _ rfl rfl S7.out ?_
                    refine hK.out _ _ trivial (fun hG2 => ?_)
                    clear hK K
                    try simp only [Act.put, List.setIfInBounds_toArray, List.set_cons_zero, List.set_cons_succ]
                    refine Hd.la 12 (fun K hK => ?_)
                    go_simp
                    refine hK.out _ _ ?_
                    clear hK K
                    try simp only [Act.put, List.setIfInBounds_toArray, List.set_cons_zero, List.set_cons_succ]
                    simp only [NoPanic]
                    go_wp2_with fail
                    obtain ⟨left', cnt', ss', L', e1, e2, e3⟩ := E2.out
                    go_roundw
                    case rel => exact ⟨left', cnt', ss', L', e1, e3⟩
                    case measure => rw [e1.left_eq, HRGr.out.left_eq]; exact e2
                · go_simp
                  refine hK.out _ _ trivial (fun hH1 => ?_)
                  clear hK K
                  try simp only [Act.put, List.setIfInBounds_toArray, List.set_cons_zero, List.set_cons_succ]
                  refine Hd.on 0 (fun K hK => ?_)
                  go_simp
                  refine hK.out _ _ trivial (fun hH2 => ?_)
                  clear hK K
                  try simp only [Act.put, List.setIfInBounds_toArray, List.set_cons_zero, List.set_cons_succ]
                  refine Hd.on 4 (fun K hK => ?_)
                  refine step_app rfl _ _ _ rfl _ _ _ _ rfl rfl U4.out ?_
                  refine hK.out _ _ trivial (fun hH3 => ?_)
                  clear hK K
                  try simp only [Act.put, List.setIfInBounds_toArray, List.set_cons_zero, List.set_cons_succ]
                  refine Hd.on 7 (fun K hK => ?_)
                  refine step_app rfl _ _ _ rfl _ _ _ _ rfl rfl U6.out ?_
                  refine hK.out _ _ trivial (fun hG1 => ?_)
                  clear hK K
                  try simp only [Act.put, List.setIfInBounds_toArray, List.set_cons_zero, List.set_cons_succ]
                  refine Hd.on 11 (fun K hK => ?_)
                  refine step_app rfl _ _ _ rfl _ _ _ _ rfl rfl U7.out ?_
                  refine hK.out _ _ trivial (fun hG2 => ?_)
                  clear hK K
                  try simp only [Act.put, List.setIfInBounds_toArray, List.set_cons_zero, List.set_cons_succ]
                  refine Hd.la 12 (fun K hK => ?_)
                  go_simp
                  refine hK.out _ _ ?_
                  clear hK K
                  try simp only [Act.put, List.setIfInBounds_toArray, List.set_cons_zero, List.set_cons_succ]
                  simp only [NoPanic]
                  go_wp2_with fail
                  obtain ⟨left', cnt', ss', L', e1, e2, e3⟩ := E3.out
                  go_roundw
                  case rel => exact ⟨left', cnt', ss', L', e1, e3⟩
                  case measure => rw [e1.left_eq, HRGr.out.left_eq]; exact e2
              · obtain rfl : k = m := by omega
                have hcap2 : ¬ (lc : Int) = (k : Int) := by omega
                have HRd := HRdd gg rfl
                rw [Nat.sub_self] at HRd
                clear HRdd e1 e2 e4 e5 hkm9 hkm2 hkm3
                have e1 : decide ((k : Int) < (k : Int)) = false := by simp
                have HT4 : Rd (fun b => b < w1.drew.heap.size) strV w1.drew (.slice (some ⟨gg, 0, none⟩) k lc) (L.take k) := HRd.out.1
                have HD4 : Rd (fun b => b < w1.drew.heap.size) strV w1.drew (.slice (some ⟨gg, k, none⟩) 0 (lc - k)) (L.drop k) := HRd.out.2
                have HLL : L.length ≤ 1000 := by rw [HM.out]; exact hLl
                have HX : Hid (∀ v7 w7, OwnS w1.drew.heap.size w7 v7 (L.take k ++ x :: L.drop k) → Below w1.drew.heap.size w1.drew w7 → ∃ (left' : Lit → Bool) (cnt' : Nat) (ss' L' : List Bts), w7.ranges Try.prog 9 (plainElem Try.prog UT) b w.heap.size n D left' cnt' ∧ cnt' < cnt ∧ Hid (Collected D left' ss' ∧ Rises L' ∧ (∀ y, y ∈ L' ↔ y ∈ ss') ∧ OwnS (w.heap.size + 1) w7 v7 L' ∧ Below w.heap.size w w7 ∧ w.heap.size + 1 ≤ w7.heap.size)) := Lib.hid (fun v7 w7 o7 b7 => by
                  have b17 : Below w1.heap.size w1 w7 := (below_drewN w1 1).trans b7
                  have hr := HRG1.out.kept (w' := w7) (row := none) ⟨b17.os, b17.tape, b17.output, b17.size, fun i hi _ => b17.block i hi⟩ (by simp) (by simp)
                  refine ⟨_, _, ss ++ [x], insL L x, hr, HLT.out, Lib.hid ⟨HI2.out.1, HI2.out.2.1, HI2.out.2.2, ?_, HB.out.trans (b17.mono HB.out.size), Nat.le_trans (HS1.out ▸ HSZ.out) b17.size⟩⟩
                  unfold insL
                  rw [HQ.out]
                  exact own_mono o7 (show w.heap.size + 1 ≤ w1.heap.size by rw [HS1.out]; exact HSZ.out))
                obtain ⟨v4, w4, v6, w6, v7, w7, r4, r6, r7, o7, b7⟩ := ord1 (x := x) HT4 HD4 HLL
                obtain ⟨y4, z4, y6, z6, y7, z7, s4, s6, s7, p7, c7⟩ := ord2 (x := x) HT4 HD4 HLL
                obtain ⟨t4, q4, t6, q6, t7, q7, u4, u6, u7, o8, b8⟩ := ord3 (x := x) HT4 HD4 HLL
                dsimp only [mtS, oneS, slS] at r4 r6 r7 s4 s6 s7 u4 u6 u7
                obtain ⟨W1, hal1⟩ : ∃ W1, w1.drew.alloc (.cells #[] ST1) = W1 := ⟨_, rfl⟩
                obtain ⟨W2, hal2⟩ : ∃ W2, w1.drew.alloc (.cells #[.string ⟨x.toArray⟩] ST1) = W2 := ⟨_, rfl⟩
                obtain ⟨W3, hal3⟩ : ∃ W3, w4.alloc (.cells #[.string ⟨x.toArray⟩] ST1) = W3 := ⟨_, rfl⟩
                obtain ⟨W4, hal4⟩ : ∃ W4, W1.alloc (.cells #[.string ⟨x.toArray⟩] ST1) = W4 := ⟨_, rfl⟩
                obtain ⟨W5, hal5⟩ : ∃ W5, W2.alloc (.cells #[] ST1) = W5 := ⟨_, rfl⟩
                rw [hal1] at r4 s4 s6
                rw [hal2] at u4
                rw [hal3] at r6
                rw [hal4] at s4
                rw [hal5] at u4
                have R4 := Lib.hid r4
                have R6 := Lib.hid r6
                have R7 := Lib.hid r7
                have S4 := Lib.hid s4
                have S6 := Lib.hid s6
                have S7 := Lib.hid s7
                have U4 := Lib.hid u4
                have U6 := Lib.hid u6
                have U7 := Lib.hid u7
                have E1 := Lib.hid (HX.out _ _ o7 b7)
                have E2 := Lib.hid (HX.out _ _ p7 c7)
                have E3 := Lib.hid (HX.out _ _ o8 b8)
                clear r4 r6 r7 s4 s6 s7 u4 u6 u7 o7 b7 p7 c7 o8 b8 HT4 HD4 HX
                go_wp2_with fail
                refine wp_region_noPanic ?_
                refine Hd.start (fun _ => True) (by kernel_rfl) trivial (fun hH0 => ?_)
                refine Hd.tk 1 3 hH0 ?_
                refine Hd.tk 2 3 hH0 ?_
                refine Hd.tk 3 4 hH0 ?_
                refine Hd.tk 5 6 hH0 ?_
                refine Hd.tk 8 10 hH0 ?_
                refine Hd.tk 9 10 hH0 ?_
                refine Hd.tk 10 11 hH0 ?_
                refine Hd.two 0 6 (o := ?_) (p := ?_) ?_ ?_ (by kernel_rfl) (fun K hK => ?_) (fun K hK => ?_)
                rotate_left 2
                · simp only [List.getElem?_toArray, List.getElem?_cons_zero]
                  exact rfl
                · simp only [List.getElem?_toArray, List.getElem?_cons_succ, List.getElem?_cons_zero]
                  exact rfl
                · go_simp
                  refine hK.out _ _ trivial (fun hH1 => ?_)
                  clear hK K
                  try simp only [Act.put, List.setIfInBounds_toArray, List.set_cons_zero, List.set_cons_succ]
                  refine Hd.two 4 6 (o := ?_) (p := ?_) ?_ ?_ (by kernel_rfl) (fun K hK => ?_) (fun K hK => ?_)
                  rotate_left 2
                  · simp only [List.getElem?_toArray, List.getElem?_cons_succ, List.getElem?_cons_zero]
                    exact rfl
                  · simp only [List.getElem?_toArray, List.getElem?_cons_succ, List.getElem?_cons_zero]
                    exact rfl
                  · refine step_app rfl _ _ _ rfl _ _ _ _ rfl rfl R4.out ?_
                    refine hK.out _ _ trivial (fun hH2 => ?_)
                    clear hK K
                    try simp only [Act.put, List.setIfInBounds_toArray, List.set_cons_zero, List.set_cons_succ]
                    refine Hd.on 6 (fun K hK => ?_)
                    go_simp
                    refine hK.out _ _ trivial (fun hH3 => ?_)
                    clear hK K
                    try simp only [Act.put, List.setIfInBounds_toArray, List.set_cons_zero, List.set_cons_succ]
                    refine Hd.on 7 (fun K hK => ?_)
                    refine step_app rfl _ _ _ rfl _ _ _ _ rfl rfl R6.out ?_
                    refine hK.out _ _ trivial (fun hG1 => ?_)
                    clear hK K
                    try simp only [Act.put, List.setIfInBounds_toArray, List.set_cons_zero, List.set_cons_succ]
                    refine Hd.on 11 (fun K hK => ?_)
                    refine step_app rfl _ _ _ rfl _ _ _ _ rfl rfl R7.out ?_
                    refine hK.out _ _ trivial (fun hG2 => ?_)
                    clear hK K
                    try simp only [Act.put, List.setIfInBounds_toArray, List.set_cons_zero, List.set_cons_succ]
                    refine Hd.la 12 (fun K hK => ?_)
                    go_simp
                    refine hK.out _ _ ?_
                    clear hK K
                    try simp only [Act.put, List.setIfInBounds_toArray, List.set_cons_zero, List.set_cons_succ]
                    simp only [NoPanic]
                    go_wp2_with fail
                    obtain ⟨left', cnt', ss', L', e1, e2, e3⟩ := E1.out
                    go_roundw
                    case rel => exact ⟨left', cnt', ss', L', e1, e3⟩
                    case measure => rw [e1.left_eq, HRGr.out.left_eq]; exact e2
                  · go_simp
                    refine hK.out _ _ trivial (fun hH2 => ?_)
                    clear hK K
                    try simp only [Act.put, List.setIfInBounds_toArray, List.set_cons_zero, List.set_cons_succ]
                    refine Hd.on 4 (fun K hK => ?_)
                    refine step_app rfl _ _ _ rfl _ _ _ _ rfl rfl S4.out ?_
                    refine hK.out _ _ trivial (fun hH3 => ?_)
                    clear hK K
                    try simp only [Act.put, List.setIfInBounds_toArray, List.set_cons_zero, List.set_cons_succ]
                    refine Hd.on 7 (fun K hK => ?_)
                    refine step_app rfl _ _ _ rfl _ _ _ _ rfl rfl S6.out ?_
                    refine hK.out _ _ trivial (fun hG1 => ?_)
                    clear hK K
                    try simp only [Act.put, List.setIfInBounds_toArray, List.set_cons_zero, List.set_cons_succ]
                    refine Hd.on 11 (fun K hK => ?_)
                    refine step_app rfl _ _ _ rfl _ _ _ _ rfl rfl S7.out ?_
                    refine hK.out _ _ trivial (fun hG2 => ?_)
                    clear hK K
                    try simp only [Act.put, List.setIfInBounds_toArray, List.set_cons_zero, List.set_cons_succ]
                    refine Hd.la 12 (fun K hK => ?_)
                    go_simp
                    refine hK.out _ _ ?_
                    clear hK K
                    try simp only [Act.put, List.setIfInBounds_toArray, List.set_cons_zero, List.set_cons_succ]
                    simp only [NoPanic]
                    go_wp2_with fail
                    obtain ⟨left', cnt', ss', L', e1, e2, e3⟩ := E2.out
                    go_roundw
                    case rel => exact ⟨left', cnt', ss', L', e1, e3⟩
                    case measure => rw [e1.left_eq, HRGr.out.left_eq]; exact e2
                · go_simp
                  refine hK.out _ _ trivial (fun hH1 => ?_)
                  clear hK K
                  try simp only [Act.put, List.setIfInBounds_toArray, List.set_cons_zero, List.set_cons_succ]
                  refine Hd.on 0 (fun K hK => ?_)
                  go_simp
                  refine hK.out _ _ trivial (fun hH2 => ?_)
                  clear hK K
                  try simp only [Act.put, List.setIfInBounds_toArray, List.set_cons_zero, List.set_cons_succ]
                  refine Hd.on 4 (fun K hK => ?_)
                  refine step_app rfl _ _ _ rfl _ _ _ _ rfl rfl U4.out ?_
                  refine hK.out _ _ trivial (fun hH3 => ?_)
                  clear hK K
                  try simp only [Act.put, List.setIfInBounds_toArray, List.set_cons_zero, List.set_cons_succ]
                  refine Hd.on 7 (fun K hK => ?_)
                  refine step_app rfl _ _ _ rfl _ _ _ _ rfl rfl U6.out ?_
                  refine hK.out _ _ trivial (fun hG1 => ?_)
                  clear hK K
                  try simp only [Act.put, List.setIfInBounds_toArray, List.set_cons_zero, List.set_cons_succ]
                  refine Hd.on 11 (fun K hK => ?_)
                  refine step_app rfl _ _ _ rfl _ _ _ _ rfl rfl U7.out ?_
                  refine hK.out _ _ trivial (fun hG2 => ?_)
                  clear hK K
                  try simp only [Act.put, List.setIfInBounds_toArray, List.set_cons_zero, List.set_cons_succ]
                  refine Hd.la 12 (fun K hK => ?_)
                  go_simp
                  refine hK.out _ _ ?_
                  clear hK K
                  try simp only [Act.put, List.setIfInBounds_toArray, List.set_cons_zero, List.set_cons_succ]
                  simp only [NoPanic]
                  go_wp2_with fail
                  obtain ⟨left', cnt', ss', L', e1, e2, e3⟩ := E3.out
                  go_roundw
                  case rel => exact ⟨left', cnt', ss', L', e1, e3⟩
                  case measure => rw [e1.left_eq, HRGr.out.left_eq]; exact e2
          · have e1 : decide ((k : Int) < (m : Int)) = true := decide_eq_true (by omega)
            have e2 : (k : Int) < (m : Int) := by omega
            have hcap : ¬ lc = k := by omega
            have hcap2 : ¬ (lc : Int) = (k : Int) := by omega
            have HRd := HRdd gg rfl
            clear HRdd hla
            have HT4 : Rd (fun b => b < w1.drew.heap.size) strV w1.drew (.slice (some ⟨gg, 0, none⟩) k lc) (L.take k) := HRd.out.1
            have HD4 : Rd (fun b => b < w1.drew.heap.size) strV w1.drew (.slice (some ⟨gg, k, none⟩) (m - k) (lc - k)) (L.drop k) := HRd.out.2
            have HLL : L.length ≤ 1000 := by rw [HM.out]; exact hLl
            have HX : Hid (∀ v7 w7, OwnS w1.drew.heap.size w7 v7 (L.take k ++ x :: L.drop k) → Below w1.drew.heap.size w1.drew w7 → ∃ (left' : Lit → Bool) (cnt' : Nat) (ss' L' : List Bts), w7.ranges Try.prog 9 (plainElem Try.prog UT) b w.heap.size n D left' cnt' ∧ cnt' < cnt ∧ Hid (Collected D left' ss' ∧ Rises L' ∧ (∀ y, y ∈ L' ↔ y ∈ ss') ∧ OwnS (w.heap.size + 1) w7 v7 L' ∧ Below w.heap.size w w7 ∧ w.heap.size + 1 ≤ w7.heap.size)) := Lib.hid (fun v7 w7 o7 b7 => by
              have b17 : Below w1.heap.size w1 w7 := (below_drewN w1 1).trans b7
              have hr := HRG1.out.kept (w' := w7) (row := none) ⟨b17.os, b17.tape, b17.output, b17.size, fun i hi _ => b17.block i hi⟩ (by simp) (by simp)
              refine ⟨_, _, ss ++ [x], insL L x, hr, HLT.out, Lib.hid ⟨HI2.out.1, HI2.out.2.1, HI2.out.2.2, ?_, HB.out.trans (b17.mono HB.out.size), Nat.le_trans (HS1.out ▸ HSZ.out) b17.size⟩⟩
              unfold insL
              rw [HQ.out]
              exact own_mono o7 (show w.heap.size + 1 ≤ w1.heap.size by rw [HS1.out]; exact HSZ.out))
            obtain ⟨v4, w4, v6, w6, v7, w7, r4, r6, r7, o7, b7⟩ := ord1 (x := x) HT4 HD4 HLL
            obtain ⟨y4, z4, y6, z6, y7, z7, s4, s6, s7, p7, c7⟩ := ord2 (x := x) HT4 HD4 HLL
            obtain ⟨t4, q4, t6, q6, t7, q7, u4, u6, u7, o8, b8⟩ := ord3 (x := x) HT4 HD4 HLL
            dsimp only [mtS, oneS, slS] at r4 r6 r7 s4 s6 s7 u4 u6 u7
            obtain ⟨W1, hal1⟩ : ∃ W1, w1.drew.alloc (.cells #[] ST1) = W1 := ⟨_, rfl⟩
            obtain ⟨W2, hal2⟩ : ∃ W2, w1.drew.alloc (.cells #[.string ⟨x.toArray⟩] ST1) = W2 := ⟨_, rfl⟩
            obtain ⟨W3, hal3⟩ : ∃ W3, w4.alloc (.cells #[.string ⟨x.toArray⟩] ST1) = W3 := ⟨_, rfl⟩
            obtain ⟨W4, hal4⟩ : ∃ W4, W1.alloc (.cells #[.string ⟨x.toArray⟩] ST1) = W4 := ⟨_, rfl⟩
            obtain ⟨W5, hal5⟩ : ∃ W5, W2.alloc (.cells #[] ST1) = W5 := ⟨_, rfl⟩
            rw [hal1] at r4 s4 s6
            rw [hal2] at u4
            rw [hal3] at r6
            rw [hal4] at s4
            rw [hal5] at u4
            have R4 := Lib.hid r4
            have R6 := Lib.hid r6
            have R7 := Lib.hid r7
            have S4 := Lib.hid s4
            have S6 := Lib.hid s6
            have S7 := Lib.hid s7
            have U4 := Lib.hid u4
            have U6 := Lib.hid u6
            have U7 := Lib.hid u7
            have E1 := Lib.hid (HX.out _ _ o7 b7)
            have E2 := Lib.hid (HX.out _ _ p7 c7)
            have E3 := Lib.hid (HX.out _ _ o8 b8)
            clear r4 r6 r7 s4 s6 s7 u4 u6 u7 o7 b7 p7 c7 o8 b8 HT4 HD4 HX
            go_wp2_with fail
            refine wp_region_noPanic ?_
            refine Hd.start (fun _ => True) (by kernel_rfl) trivial (fun hH0 => ?_)
            refine Hd.tk 1 3 hH0 ?_
            refine Hd.tk 2 3 hH0 ?_
            refine Hd.tk 3 4 hH0 ?_
            refine Hd.tk 5 6 hH0 ?_
            refine Hd.tk 8 10 hH0 ?_
            refine Hd.tk 9 10 hH0 ?_
            refine Hd.tk 10 11 hH0 ?_
            refine Hd.two 0 6 (o := ?_) (p := ?_) ?_ ?_ (by kernel_rfl) (fun K hK => ?_) (fun K hK => ?_)
            rotate_left 2
            · simp only [List.getElem?_toArray, List.getElem?_cons_zero]
              exact rfl
            · simp only [List.getElem?_toArray, List.getElem?_cons_succ, List.getElem?_cons_zero]
              exact rfl
            · go_simp
              refine hK.out _ _ trivial (fun hH1 => ?_)
              clear hK K
              try simp only [Act.put, List.setIfInBounds_toArray, List.set_cons_zero, List.set_cons_succ]
              refine Hd.two 4 6 (o := ?_) (p := ?_) ?_ ?_ (by kernel_rfl) (fun K hK => ?_) (fun K hK => ?_)
              rotate_left 2
              · simp only [List.getElem?_toArray, List.getElem?_cons_succ, List.getElem?_cons_zero]
                exact rfl
              · simp only [List.getElem?_toArray, List.getElem?_cons_succ, List.getElem?_cons_zero]
                exact rfl
              · refine step_app rfl _ _ _ rfl _ _ _ _ rfl rfl R4.out ?_
                refine hK.out _ _ trivial (fun hH2 => ?_)
                clear hK K
                try simp only [Act.put, List.setIfInBounds_toArray, List.set_cons_zero, List.set_cons_succ]
                refine Hd.on 6 (fun K hK => ?_)
                go_simp
                refine hK.out _ _ trivial (fun hH3 => ?_)
                clear hK K
                try simp only [Act.put, List.setIfInBounds_toArray, List.set_cons_zero, List.set_cons_succ]
                refine Hd.on 7 (fun K hK => ?_)
                refine step_app rfl _ _ _ rfl _ _ _ _ rfl rfl R6.out ?_
                refine hK.out _ _ trivial (fun hG1 => ?_)
                clear hK K
                try simp only [Act.put, List.setIfInBounds_toArray, List.set_cons_zero, List.set_cons_succ]
                refine Hd.on 11 (fun K hK => ?_)
                refine step_app rfl _ _ _ rfl _ _ _ _ rfl rfl R7.out ?_
                refine hK.out _ _ trivial (fun hG2 => ?_)
                clear hK K
                try simp only [Act.put, List.setIfInBounds_toArray, List.set_cons_zero, List.set_cons_succ]
                refine Hd.la 12 (fun K hK => ?_)
                go_simp
                refine hK.out _ _ ?_
                clear hK K
                try simp only [Act.put, List.setIfInBounds_toArray, List.set_cons_zero, List.set_cons_succ]
                simp only [NoPanic]
                go_wp2_with fail
                obtain ⟨left', cnt', ss', L', e1, e2, e3⟩ := E1.out
                go_roundw
                case rel => exact ⟨left', cnt', ss', L', e1, e3⟩
                case measure => rw [e1.left_eq, HRGr.out.left_eq]; exact e2
              · go_simp
                refine hK.out _ _ trivial (fun hH2 => ?_)
                clear hK K
                try simp only [Act.put, List.setIfInBounds_toArray, List.set_cons_zero, List.set_cons_succ]
                refine Hd.on 4 (fun K hK => ?_)
                refine step_app rfl _ _ _ rfl _ _ _ _ rfl rfl S4.out ?_
                refine hK.out _ _ trivial (fun hH3 => ?_)
                clear hK K
                try simp only [Act.put, List.setIfInBounds_toArray, List.set_cons_zero, List.set_cons_succ]
                refine Hd.on 7 (fun K hK => ?_)
                refine step_app rfl _ _ _ rfl _ _ _ _ rfl rfl S6.out ?_
                refine hK.out _ _ trivial (fun hG1 => ?_)
                clear hK K
                try simp only [Act.put, List.setIfInBounds_toArray, List.set_cons_zero, List.set_cons_succ]
                refine Hd.on 11 (fun K hK => ?_)
                refine step_app rfl _ _ _ rfl _ _ _ _ rfl rfl S7.out ?_
                refine hK.out _ _ trivial (fun hG2 => ?_)
                clear hK K
                try simp only [Act.put, List.setIfInBounds_toArray, List.set_cons_zero, List.set_cons_succ]
                refine Hd.la 12 (fun K hK => ?_)
                go_simp
                refine hK.out _ _ ?_
                clear hK K
                try simp only [Act.put, List.setIfInBounds_toArray, List.set_cons_zero, List.set_cons_succ]
                simp only [NoPanic]
                go_wp2_with fail
                obtain ⟨left', cnt', ss', L', e1, e2, e3⟩ := E2.out
                go_roundw
                case rel => exact ⟨left', cnt', ss', L', e1, e3⟩
                case measure => rw [e1.left_eq, HRGr.out.left_eq]; exact e2
            · go_simp
              refine hK.out _ _ trivial (fun hH1 => ?_)
              clear hK K
              try simp only [Act.put, List.setIfInBounds_toArray, List.set_cons_zero, List.set_cons_succ]
              refine Hd.on 0 (fun K hK => ?_)
              go_simp
              refine hK.out _ _ trivial (fun hH2 => ?_)
              clear hK K
              try simp only [Act.put, List.setIfInBounds_toArray, List.set_cons_zero, List.set_cons_succ]
              refine Hd.on 4 (fun K hK => ?_)
              refine step_app rfl _ _ _ rfl _ _ _ _ rfl rfl U4.out ?_
              refine hK.out _ _ trivial (fun hH3 => ?_)
              clear hK K
              try simp only [Act.put, List.setIfInBounds_toArray, List.set_cons_zero, List.set_cons_succ]
              refine Hd.on 7 (fun K hK => ?_)
              refine step_app rfl _ _ _ rfl _ _ _ _ rfl rfl U6.out ?_
              refine hK.out _ _ trivial (fun hG1 => ?_)
              clear hK K
              try simp only [Act.put, List.setIfInBounds_toArray, List.set_cons_zero, List.set_cons_succ]
              refine Hd.on 11 (fun K hK => ?_)
              refine step_app rfl _ _ _ rfl _ _ _ _ rfl rfl U7.out ?_
              refine hK.out _ _ trivial (fun hG2 => ?_)
              clear hK K
              try simp only [Act.put, List.setIfInBounds_toArray, List.set_cons_zero, List.set_cons_succ]
              refine Hd.la 12 (fun K hK => ?_)
              go_simp
              refine hK.out _ _ ?_
              clear hK K
              try simp only [Act.put, List.setIfInBounds_toArray, List.set_cons_zero, List.set_cons_succ]
              simp only [NoPanic]
              go_wp2_with fail
              obtain ⟨left', cnt', ss', L', e1, e2, e3⟩ := E3.out
              go_roundw
              case rel => exact ⟨left', cnt', ss', L', e1, e3⟩
              case measure => rw [e1.left_eq, HRGr.out.left_eq]; exact e2
end Hp
end Go.Proofs.Ytojblndlchcjeaa
