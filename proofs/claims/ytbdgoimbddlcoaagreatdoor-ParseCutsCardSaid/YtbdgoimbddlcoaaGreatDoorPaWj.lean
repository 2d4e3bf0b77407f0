/- Package parse, the walk, 19: block (wip/gen/gen_paw19.py prints this). -/
import Derived.Test.YtbdgoimbddlcoaaGreatDoorPaRd
set_option linter.unusedVariables false
namespace Go.Proofs.YtbdgoimbddlcoaaGreatDoor
open Go.RowKit
namespace Pa
open Bs Sm Tr
open Lx (Mv)
section
variable {b : Nat} {L : List Pt} {tb tc : Nat} {bad : Int} {a d f : Nat} {w w' w0 : World} {S S' : Nat → Prop} {K : Nat} {x : Nd}
theorem names_bound (hL : LOk L) : ∀ (f a : Nat) (out : List Bs.Bytes) (r : List Bs.Bytes × Nat), a < L.length → namesP L bad f a out = .ok r → r.1.length + a ≤ out.length + r.2
 | 0, a, out, r, ha, h => by unfold namesP at h; cases h
 | f + 1, a, out, r, ha, h => by
  unfold namesP at h
  split at h
  · cases h; simp
  · unfold takeP at h
    split at h
    · rename_i hk
      have := names_bound hL f (a + 1) _ r (hL.next hk (by omega) ha) h
      rw [List.length_append, List.length_singleton] at this
      omega
    · cases h
theorem names_few (hL : LOk L) {a : Nat} {EV : PE (List Bs.Bytes × Nat)} (ha : a < L.length) (h : varsP L bad (L.length + 1) a = EV) : ∀ vs a3, EV = .ok (vs, a3) → vs.length ≤ 1100000 := by
 intro vs a3 he
 have hl := hL.len
 rw [he] at h
 unfold varsP at h
 split at h
 · rename_i ho
   have h1 := hL.next (opB_k ho) (by omega) ha
   have := names_bound hL _ _ _ _ h1 h
   have hr := names_res (bad := bad) hL (L.length + 1) (a + 1) [] h1
   rw [h] at hr
   have := hr.2.1
   simp at *
   omega
 · cases h; simp
theorem colons_round (hL : LOk L) {g k : Nat} {out : List Bs.Bytes} {R : PE (List Bs.Bytes × Nat)} (hk : k < L.length) (hg : L.length - k < g) (h : colonsP L bad g out k = R) :
  (isK L 16 k = false → R = .ok (out, k)) ∧ (isK L 16 k = true → k + 1 < L.length ∧ (isK L 1 (k + 1) = false → R = .error (stopE L bad (k + 1))) ∧ (isK L 1 (k + 1) = true → k + 1 + 1 < L.length ∧ ∃ g', L.length - (k + 1 + 1) < g' ∧ colonsP L bad g' (out ++ [(now L (k + 1)).word]) (k + 1 + 1) = R)) := by
 cases g with
 | zero => omega
 | succ g =>
  unfold colonsP at h
  refine ⟨fun hq => ?_, fun hq => ?_⟩
  · rw [if_neg (by rw [hq]; simp)] at h; exact h.symm
  · rw [if_pos hq] at h
    have h1 := hL.next hq (by omega) hk
    unfold takeP at h
    refine ⟨h1, fun hr => ?_, fun hr => ?_⟩
    · rw [if_neg (by rw [hr]; simp)] at h; exact h.symm
    · rw [if_pos hr] at h
      exact ⟨hL.next hr (by omega) h1, g, by omega, h⟩
set_option maxRecDepth 100000 in
set_option maxHeartbeats 3200000 in
theorem block_step (hL : LOk L) (h : PA L bad f) (hP : Pr b L tb tc bad a d w) (ha : a < L.length) (hd : d ≤ 40) (hk13 : isK L 13 a = true) (hf : 16 * (L.length - a) + 1 ≤ f + 1) :
  Calls Tryz.prog 243 #[.pointer (some ⟨b, 0, none⟩)] w (NdO b L tb tc bad d (New w) (blockP L bad (f + 1) d a) w) := by
 have hlen := hL.len
 have hbl := hP.blk.lt
 have htl := hP.lt
 obtain ⟨iI, hiI, hI0, hI1, hI2⟩ := info_parts (show (Tryz.prog.info? 9).map (fun i => (i.zero, i.size, i.bytes)) = some (some (.string ⟨#[]⟩), 1, 16) by kernel_rfl)
 have tI : Tryz.prog.underlying 25 = some (.slice 9) := by kernel_rfl
 have hk1 := hL.next hk13 (by omega) ha
 have hX := alloc_bel w (.cells z6 NDT)
 have HN := Lib.hid (next_any (hP.bel hX) ha hlen)
 obtain ⟨R, hR⟩ : ∃ R, blockP L bad (f + 1) d a = R := ⟨_, rfl⟩
 rw [hR]
 rw [blockP] at hR
 obtain ⟨C, hC⟩ : ∃ C, colonsP L bad (L.length + 1) [] (a + 1) = C := ⟨_, rfl⟩
 rw [hC] at hR
 obtain ⟨t, ht⟩ : ∃ t, now L a = t := ⟨_, rfl⟩
 rw [ht] at HN hR
 have HX := Lib.hid hX
 have HR := Lib.hid hR
 have HC := Lib.hid hC
 have HL := Lib.hid hL
 have HH := Lib.hid h
 have F3 := fld3
 clear hX hR hC ht hP h hL hk13
 unfold ptV at HN
 go_enter Tryz.func243, Tryz.ntmps243
 go_wp2_with fail
 refine HN.out.mono ?_; rintro e w1 ⟨rfl, hP1, hm1⟩
 have hs1 := hm1.size
 simp only [World.size_alloc] at hs1
 have hM1 := (Mv.of_bel (b := b) HX.out).trans hm1
 have hZ1 : Blk NDT w.heap.size z6 w1 := (hm1.block _ (by simp) (by omega)).trans (Blk.made w)
 have hbbA := alloc_bel w1 (.cells #[.int .i64 9, .string ⟨#[]⟩, .int .i64 0, .slice none 0 0, .slice none 0 0, .int .i64 t.at_] NDT)
 have hMkA := Blk.made (T := NDT) (cs := #[.int .i64 9, .string ⟨#[]⟩, .int .i64 0, .slice none 0 0, .slice none 0 0, .int .i64 t.at_]) w1
 have hszA : (w1.alloc (.cells #[.int .i64 9, .string ⟨#[]⟩, .int .i64 0, .slice none 0 0, .slice none 0 0, .int .i64 t.at_] NDT)).heap.size = w1.heap.size + 1 := by simp
 have hP2 := hP1.bel hbbA
 have hM2 := hM1.alloc (.cells #[.int .i64 9, .string ⟨#[]⟩, .int .i64 0, .slice none 0 0, .slice none 0 0, .int .i64 t.at_] NDT)
 have hZ2 := hZ1.alloc (.cells #[.int .i64 9, .string ⟨#[]⟩, .int .i64 0, .slice none 0 0, .slice none 0 0, .int .i64 t.at_] NDT)
 obtain ⟨W2, halA⟩ : ∃ W, w1.alloc (.cells #[.int .i64 9, .string ⟨#[]⟩, .int .i64 0, .slice none 0 0, .slice none 0 0, .int .i64 t.at_] NDT) = W := ⟨_, rfl⟩
 rw [halA] at hMkA hszA hP2 hM2 hZ2
 clear hbbA
 have HP2 := Lib.hid hP2
 have HM2 := Lib.hid hM2
 have HZ2 := Lib.hid hZ2
 have HK2 := Lib.hid hMkA
 clear hP1 hm1 hM1 hZ1 hP2 hM2 hZ2 hMkA
 go_upto_region 2 with fail
 go_loopw [] (fun wr => ∃ (k g : Nat) (ps : List Bs.Bytes) (na : Option Addr) (nq : Nat), k < L.length ∧ a + 1 ≤ k ∧ ps.length ≤ k ∧ L.length - k < g ∧ Hid (colonsP L bad g ps k = C) ∧ Hid (wr.ownsRow (w1.heap.size + 1) 9 1 (.slice na ps.length nq) ps.length (ps.map strV)) ∧ Hid (Blk NDT w1.heap.size #[.int .i64 9, .string ⟨#[]⟩, .int .i64 (ps.length : Int), .slice none 0 0, .slice na ps.length nq, .int .i64 t.at_] wr) ∧ Hid (Blk NDT w.heap.size z6 wr) ∧ Hid (Pr b L tb tc bad k d wr) ∧ Hid (Mv b w wr) ∧ w1.heap.size < wr.heap.size) (fun wr => L.length - atP b wr)
 case atStart => exact ⟨a + 1, L.length + 1, [], none, 0, hk1, Nat.le_refl _, Nat.zero_le _, by omega, HC, Lib.hid (World.ownsRow_nil _ _ _ _), HK2, HZ2, HP2, HM2, by omega⟩
 case round =>
  obtain ⟨k, g, ps, na, nq, hk, hak, hpk, hg, HEk, HOw, HKk, HZk, HPk, HMv, hlt⟩ := hrel
  have hatk := HPk.out.at_
  have hrd := colons_round HL.out hk hg HEk.out
  have HI := Lib.hid (is_any HPk.out hk 16)
  obtain ⟨q, hq⟩ : ∃ t, isK L 16 k = t := ⟨_, rfl⟩
  rw [hq] at HI hrd
  have HRD := Lib.hid hrd
  have hms := HMv.out.size
  have HOL := Lib.hid HOw.out.lt
  clear hrd hq HEk HP2 HM2 HZ2 HK2 HN HC halA
  go_wp2_with fail
  refine HI.out.mono ?_; rintro e w4 ⟨rfl, hb4⟩
  have hs4 := hb4.size
  cases q with
  | true =>
   obtain ⟨hk2, hA, hB⟩ := HRD.out.2 (by first | rfl | trivial)
   have hP4 := HPk.out.bel hb4
   have c2 := hP4.c2
   have f2 := hP4.blk.fz 2
   have wk : IntKind.i64.wrap ((k : Int) + 1) = (k : Int) + 1 := IntWalk.i64_in _ (by omega)
   obtain ⟨W5, hW5⟩ : ∃ W, w4.setCell ⟨b, 2, none⟩ (.int .i64 ((k : Int) + 1)) = W := ⟨_, rfl⟩
   have hP5 : Pr b L tb tc bad (k + 1) d W5 := by rw [← hW5]; exact hP4.setA (k + 1)
   have hM5 : Mv b w W5 := by rw [← hW5]; exact (HMv.out.trans (Mv.of_bel hb4)).set_ 2 _
   have hK5 : Blk NDT w1.heap.size #[.int .i64 9, .string ⟨#[]⟩, .int .i64 (ps.length : Int), .slice none 0 0, .slice na ps.length nq, .int .i64 t.at_] W5 := by rw [← hW5]; exact (HKk.out.below hb4 (by omega)).far (show w1.heap.size ≠ b by omega) _
   have hZ5 : Blk NDT w.heap.size z6 W5 := by rw [← hW5]; exact (HZk.out.below hb4 (by omega)).far (show w.heap.size ≠ b by omega) _
   have hO5 : W5.ownsRow (w1.heap.size + 1) 9 1 (.slice na ps.length nq) ps.length (ps.map strV) := by rw [← hW5]; exact ownsRow_setCell_below (own_below HOw.out hb4) (show b < w1.heap.size + 1 by omega) _
   have hs5 : W5.heap.size = w4.heap.size := by rw [← hW5]; simp [World.setCell]
   have HT := take_any hP5.drew hk2 hlen 1
   obtain ⟨r, hr⟩ : ∃ t, isK L 1 (k + 1) = t := ⟨_, rfl⟩
   obtain ⟨u, hu⟩ : ∃ t, now L (k + 1) = t := ⟨_, rfl⟩
   rw [hr] at hA hB HT
   rw [hu] at hB HT
   have hwl : u.word.length ≤ 4096 := by rw [← hu]; exact HL.out.word _ hk2
   replace HT := Lib.hid HT
   have HA := Lib.hid hA
   have HB := Lib.hid hB
   have HM5 := Lib.hid hM5
   have HK5 := Lib.hid hK5
   have HZ5 := Lib.hid hZ5
   have HO5 := Lib.hid hO5
   clear HRD hA hB hr hu hP4 hP5 hM5 hK5 hZ5 hO5 hb4 HOw HKk HZk HPk HMv
   go_upto_region 4 with fail
   clear c2 f2 hW5
   have F1 := fld1
   have hS : ∀ v, Blk NDT w1.heap.size #[.int .i64 9, .string ⟨#[]⟩, .int .i64 (ps.length : Int), .slice none 0 0, .slice na ps.length nq, .int .i64 t.at_] v → v.cell? ⟨w1.heap.size, 4, none⟩ = some (.slice na ps.length nq) := fun v hv => hv.c 4 _ rfl
   refine region_pk (fun c a a' w h hq => (show a.defers = [] ∧ _ from ⟨h ▸ (show a'.defers = [] ∧ _ from hq).1, (show a'.defers = [] ∧ _ from hq).2⟩)) (fun HPQ => ?_)
   refine Hd.start (fun v => v.cell? ⟨w1.heap.size, 4, none⟩ = some (.slice na ps.length nq)) (by kernel_rfl) (hS _ (HK5.out.drewN 1)) (fun hH0 => ?_)
   refine Hd.tk 0 1 hH0 ?_ (hQ := fun c a w h => HPQ c _ _ w (put_defers a _ _) h)
   refine Hd.tk 1 6 hH0 ?_ (hQ := fun c a w h => HPQ c _ _ w (put_defers a _ _) h)
   refine Hd.tk 2 3 hH0 ?_ (hQ := fun c a w h => HPQ c _ _ w (put_defers a _ _) h)
   refine Hd.on 3 (fun K hK => ?_)
   go_simp
   refine HT.out.mono ?_; intro e w6 ht6
   cases r with
   | false =>
    simp only [Bool.false_eq_true, if_false] at ht6
    obtain ⟨rfl, hm⟩ := ht6
    have hE := HA.out (by first | rfl | trivial)
    subst hE
    have hR := HR.out
    simp only [bind, Except.bind] at hR
    subst hR
    go_simp
    exact ⟨rfl, rfl, (HM5.out.drew).trans hm⟩
   | true =>
    simp only [if_true] at ht6
    obtain ⟨rfl, hP6, hm6⟩ := ht6
    obtain ⟨hk3, g', hg', hE'⟩ := HB.out (by first | rfl | trivial)
    have HE' := Lib.hid hE'
    have hs6 : W5.heap.size ≤ w6.heap.size := hm6.size
    have hK6 : Blk NDT w1.heap.size #[.int .i64 9, .string ⟨#[]⟩, .int .i64 (ps.length : Int), .slice none 0 0, .slice na ps.length nq, .int .i64 t.at_] w6 := (hm6.block _ (show w1.heap.size < W5.heap.size by omega) (by omega)).trans HK5.out
    have hZ6 : Blk NDT w.heap.size z6 w6 := (hm6.block _ (show w.heap.size < W5.heap.size by omega) (by omega)).trans HZ5.out
    have hO6 := own_mv (w := W5.drew) HO5.out hm6 (show b < w1.heap.size + 1 by omega)
    have hM6 := (HM5.out.drew).trans hm6
    have HK6 := Lib.hid hK6
    have HZ6 := Lib.hid hZ6
    have HO6 := Lib.hid hO6
    have HM6 := Lib.hid hM6
    have HP6 := Lib.hid hP6
    clear hE' hP6 hm6 hK6 hZ6 hO6 hM6 HM5 HK5 HZ5 HO5 HA HB
    unfold ptV
    go_simp
    refine hK.out _ _ (hS _ HK6.out) (fun hH1 => ?_)
    clear hK K
    try simp only [Act.put, Hd.sa, Hd.sz, Hd.ss]
    refine Hd.tk 4 5 hH1 ?_ (hQ := fun c a w h => HPQ c _ _ w (put_defers a _ _) h)
    have hP6 := HP6.out
    have hM6 := HM6.out
    have hK6 := HK6.out
    have hZ6 := HZ6.out
    have hO6 := Lib.hid (own_below HO6.out (alloc_bel w6 (.cells #[.string ⟨u.word.toArray⟩] 9)))
    have hbbB := alloc_bel w6 (.cells #[.string ⟨u.word.toArray⟩] 9)
    have hMkB := Blk.made (T := 9) (cs := #[.string ⟨u.word.toArray⟩]) w6
    have hszB : (w6.alloc (.cells #[.string ⟨u.word.toArray⟩] 9)).heap.size = w6.heap.size + 1 := by simp
    have hP7 := hP6.bel hbbB
    have hM7 := hM6.alloc (.cells #[.string ⟨u.word.toArray⟩] 9)
    have hK7 := hK6.alloc (.cells #[.string ⟨u.word.toArray⟩] 9)
    have hZ7 := hZ6.alloc (.cells #[.string ⟨u.word.toArray⟩] 9)
    obtain ⟨W7, halB⟩ : ∃ W, w6.alloc (.cells #[.string ⟨u.word.toArray⟩] 9) = W := ⟨_, rfl⟩
    rw [halB] at hMkB hszB hP7 hM7 hK7 hZ7
    clear hbbB
    rw [halB] at hO6
    have hnews := World.news_of_block hMkB
    have HP7 := Lib.hid hP7
    have HM7 := Lib.hid hM7
    have HK7 := Lib.hid hK7
    have HZ7 := Lib.hid hZ7
    have HO7 := hO6
    have HNEWS := Lib.hid hnews
    have hms7 := hM7.size
    clear hP6 hM6 hK6 hZ6 hO6 hP7 hM7 hK7 hZ7 hnews hMkB HP6 HM6 HK6 HZ6 HO6
    refine Hd.on 5 (fun K hK => ?_)
    go_simp
    refine hK.out _ _ (hS _ HK7.out) (fun hH2 => ?_)
    clear hK K
    try simp only [Act.put, Hd.sa, Hd.sz, Hd.ss]
    refine Hd.on 6 (fun K hK => ?_)
    refine step_append_lies _ rfl (.tmp 18) (.tmp 22) 25 rfl (w1.heap.size + 1) 9 iI (.string ⟨#[]⟩) 1 16 tI hiI hI0 hI1 hI2 rfl (by decide) _ ps.length (ps.map strV) (by simp [Act.eval]) HO7.out ⟨w6.heap.size, 0, none⟩ 1 1 [.string ⟨u.word.toArray⟩] (by simp [Act.eval]) rfl HNEWS.out (fun x hx => by simp at hx; subst hx; rfl) (by decide) (by unfold maxLen; omega) (by omega) (by omega) _ rfl ?_
    intro gb cap w8 hown8 hgrow8 hat8 hlt8
    have hs8 := hgrow8.size
    have hob : ∀ j, (Value.slice na ps.length nq).ownBlock = some j → w1.heap.size + 1 ≤ j := fun j hj => (HO7.out.lt j hj).1
    have hP8 := HP7.out.grown hgrow8 (fun h => by have := hob _ h; omega) (fun h => by have := hob _ h; omega)
    have hM8 := Mv.grown HM7.out hgrow8 (fun j h => by have := hob _ h; omega)
    have hK8 : Blk NDT w1.heap.size #[.int .i64 9, .string ⟨#[]⟩, .int .i64 (ps.length : Int), .slice none 0 0, .slice na ps.length nq, .int .i64 t.at_] w8 := (hgrow8.block _ (by omega) (fun h => by have := hob _ h.symm; omega)).trans HK7.out
    have hZ8 : Blk NDT w.heap.size z6 w8 := (hgrow8.block _ (by omega) (fun h => by have := hob _ h.symm; omega)).trans HZ7.out
    have e2 := hK8.c 2 _ rfl
    have e4 := hK8.c 4 _ rfl
    have ef := hK8.fz
    have HP8 := Lib.hid hP8
    have HM8 := Lib.hid hM8
    have HK8 := Lib.hid hK8
    have HZ8 := Lib.hid hZ8
    have HO8 := Lib.hid hown8
    clear hgrow8 hat8 hown8 hP8 hM8 hK8 hZ8 hob HP7 HM7 HK7 HZ7 HO7 HNEWS halB
    refine hK.out _ _ (hS _ HK8.out) (fun hH3 => ?_)
    clear hK K
    try simp only [Act.put, Hd.sa, Hd.sz, Hd.ss]
    refine Hd.tk 7 8 hH3 ?_ (hQ := fun c a w h => HPQ c _ _ w (put_defers a _ _) h)
    refine Hd.la 8 (fun K hK => ?_)
    go_simp
    refine hK.out _ _ ?_
    clear hK K
    try simp only [Act.put, Hd.sa, Hd.sz, Hd.ss]
    have wn : IntKind.i64.wrap ((ps.length : Int) + 1) = (ps.length : Int) + 1 := IntWalk.i64_in _ (by omega)
    go_wp2_with fail
    have hlo : (ps ++ [u.word]).length = ps.length + 1 := by simp
    have hPf := ((HP8.out.far (p := ⟨w1.heap.size, 4, none⟩) (show b ≠ w1.heap.size by omega) (show tb ≠ w1.heap.size by omega) (.slice (some ⟨gb, 0, none⟩) (ps.length + 1) cap)).far (p := ⟨w1.heap.size, 2, none⟩) (show b ≠ w1.heap.size by omega) (show tb ≠ w1.heap.size by omega) (.int .i64 ((ps.length : Int) + 1)))
    refine ⟨⟨k + 1 + 1, g', ps ++ [u.word], some ⟨gb, 0, none⟩, cap, hk3, by omega, by rw [hlo]; omega, hg', HE', Lib.hid ?_, Lib.hid ?_, Lib.hid ((HZ8.out.far (p := ⟨w1.heap.size, 4, none⟩) (show w.heap.size ≠ w1.heap.size by omega) _).far (p := ⟨w1.heap.size, 2, none⟩) (show w.heap.size ≠ w1.heap.size by omega) _), Lib.hid hPf, Lib.hid ((HM8.out.new (p := ⟨w1.heap.size, 4, none⟩) (show w.heap.size ≤ w1.heap.size by omega) _).new (p := ⟨w1.heap.size, 2, none⟩) (show w.heap.size ≤ w1.heap.size by omega) _), by simp [World.setCell]; omega⟩, ?_⟩
    · rw [hlo, List.map_append]
      exact ownsRow_setCell_below (ownsRow_setCell_below HO8.out (show w1.heap.size < w1.heap.size + 1 by omega) _) (show w1.heap.size < w1.heap.size + 1 by omega) _
    · rw [hlo]
      exact (HK8.out.set_ 4 _ _ rfl).set_ 2 _ _ (by simp)
    · rw [hPf.at_]; omega
  | false =>
   have hEE := HRD.out.1 (by first | rfl | trivial)
   subst hEE
   have hR := HR.out
   simp only [bind, Except.bind] at hR
   have hP4 := HPk.out.bel hb4
   have hM4 := HMv.out.trans (Mv.of_bel hb4)
   have hK4 := HKk.out.below hb4 (by omega)
   have hZ4 := HZk.out.below hb4 (by omega)
   have hO4 := own_below HOw.out hb4
   have e2 := hK4.c 2 _ rfl
   by_cases hps : ps = []
   · have hz : ¬ (0 : Int) < (ps.length : Int) := by rw [hps]; simp
     have hzd : decide ((0 : Int) < (ps.length : Int)) = false := by rw [decide_eq_false_iff_not]; exact hz
     have hzn : ¬ 0 < ps.length := by rw [hps]; simp
     rw [if_neg (by rw [hps]; simp)] at hR
     try simp only [bind, Except.bind] at hR
     have HRc := Lib.hid hR
     have HPc := Lib.hid hP4
     have HMc := Lib.hid hM4
     have HKc := Lib.hid hK4
     have HZc := Lib.hid hZ4
     have HOc := Lib.hid hO4
     have hck := hk
     have hak2 := hak
     clear hps hR hP4 hM4 hK4 hZ4 hO4 HRD HOw HKk HZk HPk HMv hb4 HR
     go_upto_region 8 with fail
     clear e2
     have HVA := vars_any HL.out HPc.out.drew hck
     have hvres := vars_res (bad := bad) HL.out (L.length + 1) k hck
     obtain ⟨EV, hEV⟩ : ∃ E, varsP L bad (L.length + 1) k = E := ⟨_, rfl⟩
     have hR := HRc.out
     rw [hEV] at HVA hvres hR
     replace HVA := Lib.hid HVA
     have HRV := Lib.hid hR
     have hvl := names_few HL.out hck hEV
     clear hR hEV HRc
     have hmc := HMc.out.size
     have hlc := HKc.out.lt
     have hS : ∀ v, Blk NDT w1.heap.size #[.int .i64 9, .string ⟨#[]⟩, .int .i64 (ps.length : Int), .slice none 0 0, .slice na ps.length nq, .int .i64 t.at_] v → v.cell? ⟨w1.heap.size, 4, none⟩ = some (.slice na ps.length nq) := fun v hv => hv.c 4 _ rfl
     refine region_pk (fun c a a' w h hq => (show a.defers = [] ∧ _ from ⟨h ▸ (show a'.defers = [] ∧ _ from hq).1, (show a'.defers = [] ∧ _ from hq).2⟩)) (fun HPQ => ?_)
     refine Hd.start (fun v => v.cell? ⟨w1.heap.size, 4, none⟩ = some (.slice na ps.length nq)) (by kernel_rfl) (hS _ (HKc.out.drewN 1)) (fun hH0 => ?_)
     refine Hd.tk 0 1 hH0 ?_ (hQ := fun c a w h => HPQ c _ _ w (put_defers a _ _) h)
     refine Hd.tk 1 4 hH0 ?_ (hQ := fun c a w h => HPQ c _ _ w (put_defers a _ _) h)
     refine Hd.tk 2 3 hH0 ?_ (hQ := fun c a w h => HPQ c _ _ w (put_defers a _ _) h)
     refine Hd.on 3 (fun K hK => ?_)
     go_simp
     refine HVA.out.mono ?_; intro e w9 ht9
     cases EV with
     | error y =>
      obtain ⟨rfl, hm⟩ := ht9
      have hR := HRV.out
      simp only [bind, Except.bind] at hR
      subst hR
      go_simp
      exact ⟨rfl, rfl, (HMc.out.drew).trans hm⟩
     | ok y =>
      obtain ⟨vs, a3⟩ := y
      have hR := HRV.out
      simp only [bind, Except.bind] at hR
      replace HRV := Lib.hid hR
      clear hR
      obtain ⟨vv, hvv, rfl, hP9, hm9⟩ := ht9
      obtain ⟨vo, vc, rfl, hvc1, hvc2⟩ := hvv.form
      obtain ⟨q1, q2, -, -⟩ := hvres
      simp only at q1 q2
      have hvl := hvl vs a3 rfl
      have hs9 : w4.heap.size ≤ w9.heap.size := hm9.size
      have hK9 : Blk NDT w1.heap.size #[.int .i64 9, .string ⟨#[]⟩, .int .i64 (ps.length : Int), .slice none 0 0, .slice na ps.length nq, .int .i64 t.at_] w9 := (hm9.block _ (show w1.heap.size < w4.heap.size by omega) (by omega)).trans HKc.out
      have hZ9 : Blk NDT w.heap.size z6 w9 := (hm9.block _ (show w.heap.size < w4.heap.size by omega) (by omega)).trans HZc.out
      have hO9 := own_mv (w := w4.drew) HOc.out hm9 (show b < w1.heap.size + 1 by omega)
      have hM9 := (HMc.out.drew).trans hm9
      have HK9 := Lib.hid hK9
      have HZ9 := Lib.hid hZ9
      have HO9 := Lib.hid hO9
      have HM9 := Lib.hid hM9
      have HP9 := Lib.hid hP9
      have HVV := Lib.hid hvv
      clear hvv hP9 hm9 hK9 hZ9 hO9 hM9 HPc HMc HKc HZc HOc
      go_simp
      refine hK.out _ _ (hS _ HK9.out) (fun hH1 => ?_)
      clear hK K
      try simp only [Act.put, Hd.sa, Hd.sz, Hd.ss]
      refine Hd.on 4 (fun K hK => ?_)
      refine step_rd (S := New w4.drew) (f := strV) (fun _ => rfl) rfl (.tmp 40) (.tmp 42) 25 9 rfl tI iI (.string ⟨#[]⟩) 16 hiI hI0 hI1 hI2 rfl HO9.out (by simp [Act.eval]) (by simp [Act.eval]) HVV.out (by unfold maxLen; omega) (by omega) (by omega) ?_
      intro v10 w10 hown10 hgrow10 hat10
      have hs10 := hgrow10.size
      have hob : ∀ j, (Value.slice na ps.length nq).ownBlock = some j → w1.heap.size + 1 ≤ j := fun j hj => (HO9.out.lt j hj).1
      have hP10 := HP9.out.grown hgrow10 (fun h => by have := hob _ h; omega) (fun h => by have := hob _ h; omega)
      have hM10 := Mv.grown HM9.out hgrow10 (fun j h => by have := hob _ h; omega)
      have hK10 : Blk NDT w1.heap.size #[.int .i64 9, .string ⟨#[]⟩, .int .i64 (ps.length : Int), .slice none 0 0, .slice na ps.length nq, .int .i64 t.at_] w10 := (hgrow10.block _ (by omega) (fun h => by have := hob _ h.symm; omega)).trans HK9.out
      have hZ10 : Blk NDT w.heap.size z6 w10 := (hgrow10.block _ (by omega) (fun h => by have := hob _ h.symm; omega)).trans HZ9.out
      have hlen2 : (ps ++ vs).length = ps.length + vs.length := List.length_append
      have hown10 : w10.ownsRow (w1.heap.size + 1) 9 1 v10 (ps ++ vs).length ((ps ++ vs).map strV) := by rw [hlen2, List.map_append]; exact hown10
      obtain ⟨pv, hpv⟩ : ∃ l, ps ++ vs = l := ⟨_, rfl⟩
      rw [hpv] at hown10 hlen2
      have HPV := Lib.hid hpv
      clear hpv hlen2
      obtain ⟨xo, xc, rfl, -⟩ := own_slice hown10
      have hRD := Rd.of hown10
      have k4 := hK10.c 4 _ rfl
      have kf := hK10.fz
      have HK10 := Lib.hid hK10
      have HZ10 := Lib.hid hZ10
      have HM10 := Lib.hid hM10
      have HP10 := Lib.hid hP10
      have HRD := Lib.hid hRD
      clear hown10 hgrow10 hat10 hob hP10 hM10 hK10 hZ10 hRD HK9 HZ9 HO9 HM9 HP9 HVV
      refine hK.out _ _ (hS _ HK10.out) (fun hH2 => ?_)
      clear hK K
      try simp only [Act.put, Hd.sa, Hd.sz, Hd.ss]
      refine Hd.tk 5 6 hH2 ?_ (hQ := fun c a w h => HPQ c _ _ w (put_defers a _ _) h)
      refine Hd.la 6 (fun K hK => ?_)
      go_simp
      refine hK.out _ _ ?_
      clear hK K
      try simp only [Act.put, Hd.sa, Hd.sz, Hd.ss]
      obtain ⟨W11, hW11⟩ : ∃ W, w10.setCell ⟨w1.heap.size, 4, none⟩ (.slice xo pv.length xc) = W := ⟨_, rfl⟩
      rw [hW11]
      have hP11 : Pr b L tb tc bad a3 d W11 := by rw [← hW11]; exact HP10.out.far (show b ≠ w1.heap.size by omega) (show tb ≠ w1.heap.size by omega) _
      have hM11 : Mv b w W11 := by rw [← hW11]; exact HM10.out.new (show w.heap.size ≤ w1.heap.size by omega) _
      have hK11 : Blk NDT w1.heap.size #[.int .i64 9, .string ⟨#[]⟩, .int .i64 (ps.length : Int), .slice none 0 0, .slice xo pv.length xc, .int .i64 t.at_] W11 := by rw [← hW11]; exact HK10.out.set_ 4 _ _ rfl
      have hZ11 : Blk NDT w.heap.size z6 W11 := by rw [← hW11]; exact HZ10.out.far (show w.heap.size ≠ w1.heap.size by omega) _
      have hR11 : Rd (fun j => (w1.heap.size + 1) ≤ j) strV W11 (.slice xo pv.length xc) pv := by rw [← hW11]; exact HRD.out.kp (kp_set 4 (by omega) _)
      have hs11 : W11.heap.size = w10.heap.size := by rw [← hW11]; simp [World.setCell]
      have HST := HH.out.stmts (e := 14) hP11 q2 hd (.inr rfl) (by omega)
      have hsres := (PB.all (bad := bad) HL.out f).stmts d 14 a3 [] (.inr rfl) q2 InL.nil
      obtain ⟨ES, hES⟩ : ∃ E, stmtsP L bad f d 14 a3 [] = E := ⟨_, rfl⟩
      have hR := HRV.out
      rw [hES] at HST hsres hR
      replace HST := Lib.hid HST
      replace HRV := Lib.hid hR
      have HM11 := Lib.hid hM11
      have HK11 := Lib.hid hK11
      have HZ11 := Lib.hid hZ11
      have HR11 := Lib.hid hR11
      clear hR hES hW11 hP11 hM11 hK11 hZ11 hR11 HK10 HZ10 HM10 HP10 HRD k4 kf
      go_wp2_with fail
      refine HST.out.mono ?_; intro e w12 ht12
      cases ES with
      | error y =>
       obtain ⟨rfl, hm⟩ := ht12
       have hR := HRV.out
       simp only [bind, Except.bind] at hR
       subst hR
       go_wp2_with fail
       exact ⟨rfl, rfl, HM11.out.trans hm⟩
      | ok y =>
       obtain ⟨ks, a4⟩ := y
       have hR := HRV.out
       simp only [bind, Except.bind] at hR
       rw [HPV.out] at hR
       subst hR
       obtain ⟨v, hT12, rfl, hP12, hm12⟩ := ht12
       obtain ⟨ko, kc, rfl, -, -⟩ := hT12.form
       obtain ⟨q3, q4, -, -⟩ := hsres
       simp only at q3 q4
       have hs12 := hm12.size
       have hK12 : Blk NDT w1.heap.size #[.int .i64 9, .string ⟨#[]⟩, .int .i64 (ps.length : Int), .slice none 0 0, .slice xo pv.length xc, .int .i64 t.at_] w12 := (hm12.block _ (by omega) (by omega)).trans HK11.out
       have hZ12 : Blk NDT w.heap.size #[.int .i64 0, .string ⟨#[]⟩, .int .i64 0, .slice none 0 0, .slice none 0 0, .int .i64 0] w12 := (hm12.block _ (by omega) (by omega)).trans HZ11.out
       have hR12 := HR11.out.kp (Mv.kp hm12 (by omega))
       have hM12 := HM11.out.trans hm12
       have hT13 := hT12.mono (S' := fun j => New w j ∧ j ≠ w.heap.size ∧ j ≠ w1.heap.size) (fun j hj hl => by unfold New at *; omega)
       have hR13 := hR12.mono (S' := fun j => New w j ∧ j ≠ w.heap.size ∧ j ≠ w1.heap.size) (fun j hj hl => by unfold New; omega)
       have e0 := hK12.c 0 _ rfl
       have e1 := hK12.c 1 _ rfl
       have e2 := hK12.c 2 _ rfl
       have e3 := hK12.c 3 _ rfl
       have e4 := hK12.c 4 _ rfl
       have e5 := hK12.c 5 _ rfl
       have z0 := hZ12.c 0 _ rfl
       have z1 := hZ12.c 1 _ rfl
       have z2 := hZ12.c 2 _ rfl
       have z3 := hZ12.c 3 _ rfl
       have z4 := hZ12.c 4 _ rfl
       have z5 := hZ12.c 5 _ rfl
       have ef := hK12.fz
       have zf := hZ12.fz
       have c2 := hP12.c2
       have f2 := hP12.blk.fz 2
       have wa : IntKind.i64.wrap ((a4 : Int) + 1) = (a4 : Int) + 1 := IntWalk.i64_in _ (by omega)
       have n1 : ¬ w1.heap.size = b := by omega
       have n2 : ¬ w.heap.size = b := by omega
       have n3 : ¬ b = w.heap.size := by omega
       have n4 : ¬ b = w1.heap.size := by omega
       have n5 : ¬ w1.heap.size = w.heap.size := by omega
       have n6 : ¬ w.heap.size = w1.heap.size := by omega
       have HP12 := Lib.hid hP12
       have HM12 := Lib.hid hM12
       have HT12 := Lib.hid hT13
       have HR12 := Lib.hid hR13
       clear hT12 hP12 hm12 hK12 hZ12 hR12 hM12 hT13 hR13 HM11 HK11 HZ11 HR11
       go_wp2_with fail
       refine bodyPost_ret (v := .agg #[.int .i64 9, .string ⟨#[]⟩, .int .i64 (ps.length : Int), .slice ko ks.length kc, .slice xo pv.length xc, .int .i64 t.at_]) (by simp [results, Tryz.results243, go_sem, ndA, z0, z1, z2, z3, z4, z5]) rfl ?_
       refine ⟨_, ⟨_, _, rfl, (((HT12.out.kp (kp_set 3 ?_ _)).kp (kp_set 2 ?_ _)).kp (kp_set6 ?_)).mono (fun j hj _ => hj.1), (((HR12.out.kp (kp_set 3 ?_ _)).kp (kp_set 2 ?_ _)).kp (kp_set6 ?_)).mono (fun j hj _ => hj.1)⟩, rfl, pr_far6 ((HP12.out.far (p := ⟨w1.heap.size, 3, none⟩) n4 (show tb ≠ w1.heap.size by omega) _).setA (a4 + 1)) (by omega) (by omega), mv_set6 ((HM12.out.new (p := ⟨w1.heap.size, 3, none⟩) (show w.heap.size ≤ w1.heap.size by omega) _).set_ 2 _) (Nat.le_refl _)⟩
       all_goals (simp [New]; try omega)
   · have hpl : 0 < ps.length := by cases ps with | nil => exact absurd rfl hps | cons _ _ => simp
     have hz : (0 : Int) < (ps.length : Int) := by omega
     have hzd : decide ((0 : Int) < (ps.length : Int)) = true := by rw [decide_eq_true_eq]; exact hz
     have hzb : ps.isEmpty = false := by cases ps with | nil => exact absurd rfl hps | cons _ _ => rfl
     have HI2 := is_any hP4 hk 14
     have HTO := fun w' (hb : Below w4.heap.size w4 w') => takeOp_any (hP4.bel hb) hk hlen [124]
     obtain ⟨q14, hq14⟩ : ∃ t, isK L 14 k = t := ⟨_, rfl⟩
     rw [hq14] at HI2
     rw [hzb, hq14] at hR
     replace HI2 := Lib.hid HI2
     have HTO := Lib.hid HTO
     have HP4 := Lib.hid hP4
     have HM4 := Lib.hid hM4
     have HK4 := Lib.hid hK4
     have HZ4 := Lib.hid hZ4
     have HO4 := Lib.hid hO4
     have HRq := Lib.hid hR
     clear hps hR hP4 hM4 hK4 hZ4 hO4 HRD HOw HKk HZk HPk HMv hb4 HR hzb hq14
     go_wp2_with fail
     refine HI2.out.mono ?_; rintro e w5 ⟨rfl, hb5⟩
     have hs5 := hb5.size
     cases q14 with
     | true =>
      have hR := HRq.out
      rw [if_neg (by simp)] at hR
      try simp only [bind, Except.bind] at hR
      have HRc := Lib.hid hR
      have HPc := Lib.hid (HP4.out.bel hb5)
      have HMc := Lib.hid (HM4.out.trans (Mv.of_bel hb5))
      have HKc := Lib.hid (HK4.out.below hb5 (by omega))
      have HZc := Lib.hid (HZ4.out.below hb5 (by omega))
      have HOc := Lib.hid (own_below HO4.out hb5)
      have hck := hk
      have hak2 := hak
      clear hR HRq HP4 HM4 HK4 HZ4 HO4 hb5 HTO HI2
      go_upto_region 8 with fail
      clear e2
      have HVA := vars_any HL.out HPc.out.drew hck
      have hvres := vars_res (bad := bad) HL.out (L.length + 1) k hck
      obtain ⟨EV, hEV⟩ : ∃ E, varsP L bad (L.length + 1) k = E := ⟨_, rfl⟩
      have hR := HRc.out
      rw [hEV] at HVA hvres hR
      replace HVA := Lib.hid HVA
      have HRV := Lib.hid hR
      have hvl := names_few HL.out hck hEV
      clear hR hEV HRc
      have hmc := HMc.out.size
      have hlc := HKc.out.lt
      have hS : ∀ v, Blk NDT w1.heap.size #[.int .i64 9, .string ⟨#[]⟩, .int .i64 (ps.length : Int), .slice none 0 0, .slice na ps.length nq, .int .i64 t.at_] v → v.cell? ⟨w1.heap.size, 4, none⟩ = some (.slice na ps.length nq) := fun v hv => hv.c 4 _ rfl
      refine region_pk (fun c a a' w h hq => (show a.defers = [] ∧ _ from ⟨h ▸ (show a'.defers = [] ∧ _ from hq).1, (show a'.defers = [] ∧ _ from hq).2⟩)) (fun HPQ => ?_)
      refine Hd.start (fun v => v.cell? ⟨w1.heap.size, 4, none⟩ = some (.slice na ps.length nq)) (by kernel_rfl) (hS _ (HKc.out.drewN 1)) (fun hH0 => ?_)
      refine Hd.tk 0 1 hH0 ?_ (hQ := fun c a w h => HPQ c _ _ w (put_defers a _ _) h)
      refine Hd.tk 1 4 hH0 ?_ (hQ := fun c a w h => HPQ c _ _ w (put_defers a _ _) h)
      refine Hd.tk 2 3 hH0 ?_ (hQ := fun c a w h => HPQ c _ _ w (put_defers a _ _) h)
      refine Hd.on 3 (fun K hK => ?_)
      go_simp
      refine HVA.out.mono ?_; intro e w9 ht9
      cases EV with
      | error y =>
       obtain ⟨rfl, hm⟩ := ht9
       have hR := HRV.out
       simp only [bind, Except.bind] at hR
       subst hR
       go_simp
       exact ⟨rfl, rfl, (HMc.out.drew).trans hm⟩
      | ok y =>
       obtain ⟨vs, a3⟩ := y
       have hR := HRV.out
       simp only [bind, Except.bind] at hR
       replace HRV := Lib.hid hR
       clear hR
       obtain ⟨vv, hvv, rfl, hP9, hm9⟩ := ht9
       obtain ⟨vo, vc, rfl, hvc1, hvc2⟩ := hvv.form
       obtain ⟨q1, q2, -, -⟩ := hvres
       simp only at q1 q2
       have hvl := hvl vs a3 rfl
       have hs9 : w5.heap.size ≤ w9.heap.size := hm9.size
       have hK9 : Blk NDT w1.heap.size #[.int .i64 9, .string ⟨#[]⟩, .int .i64 (ps.length : Int), .slice none 0 0, .slice na ps.length nq, .int .i64 t.at_] w9 := (hm9.block _ (show w1.heap.size < w5.heap.size by omega) (by omega)).trans HKc.out
       have hZ9 : Blk NDT w.heap.size z6 w9 := (hm9.block _ (show w.heap.size < w5.heap.size by omega) (by omega)).trans HZc.out
       have hO9 := own_mv (w := w5.drew) HOc.out hm9 (show b < w1.heap.size + 1 by omega)
       have hM9 := (HMc.out.drew).trans hm9
       have HK9 := Lib.hid hK9
       have HZ9 := Lib.hid hZ9
       have HO9 := Lib.hid hO9
       have HM9 := Lib.hid hM9
       have HP9 := Lib.hid hP9
       have HVV := Lib.hid hvv
       clear hvv hP9 hm9 hK9 hZ9 hO9 hM9 HPc HMc HKc HZc HOc
       go_simp
       refine hK.out _ _ (hS _ HK9.out) (fun hH1 => ?_)
       clear hK K
       try simp only [Act.put, Hd.sa, Hd.sz, Hd.ss]
       refine Hd.on 4 (fun K hK => ?_)
       refine step_rd (S := New w5.drew) (f := strV) (fun _ => rfl) rfl (.tmp 40) (.tmp 42) 25 9 rfl tI iI (.string ⟨#[]⟩) 16 hiI hI0 hI1 hI2 rfl HO9.out (by simp [Act.eval]) (by simp [Act.eval]) HVV.out (by unfold maxLen; omega) (by omega) (by omega) ?_
       intro v10 w10 hown10 hgrow10 hat10
       have hs10 := hgrow10.size
       have hob : ∀ j, (Value.slice na ps.length nq).ownBlock = some j → w1.heap.size + 1 ≤ j := fun j hj => (HO9.out.lt j hj).1
       have hP10 := HP9.out.grown hgrow10 (fun h => by have := hob _ h; omega) (fun h => by have := hob _ h; omega)
       have hM10 := Mv.grown HM9.out hgrow10 (fun j h => by have := hob _ h; omega)
       have hK10 : Blk NDT w1.heap.size #[.int .i64 9, .string ⟨#[]⟩, .int .i64 (ps.length : Int), .slice none 0 0, .slice na ps.length nq, .int .i64 t.at_] w10 := (hgrow10.block _ (by omega) (fun h => by have := hob _ h.symm; omega)).trans HK9.out
       have hZ10 : Blk NDT w.heap.size z6 w10 := (hgrow10.block _ (by omega) (fun h => by have := hob _ h.symm; omega)).trans HZ9.out
       have hlen2 : (ps ++ vs).length = ps.length + vs.length := List.length_append
       have hown10 : w10.ownsRow (w1.heap.size + 1) 9 1 v10 (ps ++ vs).length ((ps ++ vs).map strV) := by rw [hlen2, List.map_append]; exact hown10
       obtain ⟨pv, hpv⟩ : ∃ l, ps ++ vs = l := ⟨_, rfl⟩
       rw [hpv] at hown10 hlen2
       have HPV := Lib.hid hpv
       clear hpv hlen2
       obtain ⟨xo, xc, rfl, -⟩ := own_slice hown10
       have hRD := Rd.of hown10
       have k4 := hK10.c 4 _ rfl
       have kf := hK10.fz
       have HK10 := Lib.hid hK10
       have HZ10 := Lib.hid hZ10
       have HM10 := Lib.hid hM10
       have HP10 := Lib.hid hP10
       have HRD := Lib.hid hRD
       clear hown10 hgrow10 hat10 hob hP10 hM10 hK10 hZ10 hRD HK9 HZ9 HO9 HM9 HP9 HVV
       refine hK.out _ _ (hS _ HK10.out) (fun hH2 => ?_)
       clear hK K
       try simp only [Act.put, Hd.sa, Hd.sz, Hd.ss]
       refine Hd.tk 5 6 hH2 ?_ (hQ := fun c a w h => HPQ c _ _ w (put_defers a _ _) h)
       refine Hd.la 6 (fun K hK => ?_)
       go_simp
       refine hK.out _ _ ?_
       clear hK K
       try simp only [Act.put, Hd.sa, Hd.sz, Hd.ss]
       obtain ⟨W11, hW11⟩ : ∃ W, w10.setCell ⟨w1.heap.size, 4, none⟩ (.slice xo pv.length xc) = W := ⟨_, rfl⟩
       rw [hW11]
       have hP11 : Pr b L tb tc bad a3 d W11 := by rw [← hW11]; exact HP10.out.far (show b ≠ w1.heap.size by omega) (show tb ≠ w1.heap.size by omega) _
       have hM11 : Mv b w W11 := by rw [← hW11]; exact HM10.out.new (show w.heap.size ≤ w1.heap.size by omega) _
       have hK11 : Blk NDT w1.heap.size #[.int .i64 9, .string ⟨#[]⟩, .int .i64 (ps.length : Int), .slice none 0 0, .slice xo pv.length xc, .int .i64 t.at_] W11 := by rw [← hW11]; exact HK10.out.set_ 4 _ _ rfl
       have hZ11 : Blk NDT w.heap.size z6 W11 := by rw [← hW11]; exact HZ10.out.far (show w.heap.size ≠ w1.heap.size by omega) _
       have hR11 : Rd (fun j => (w1.heap.size + 1) ≤ j) strV W11 (.slice xo pv.length xc) pv := by rw [← hW11]; exact HRD.out.kp (kp_set 4 (by omega) _)
       have hs11 : W11.heap.size = w10.heap.size := by rw [← hW11]; simp [World.setCell]
       have HST := HH.out.stmts (e := 14) hP11 q2 hd (.inr rfl) (by omega)
       have hsres := (PB.all (bad := bad) HL.out f).stmts d 14 a3 [] (.inr rfl) q2 InL.nil
       obtain ⟨ES, hES⟩ : ∃ E, stmtsP L bad f d 14 a3 [] = E := ⟨_, rfl⟩
       have hR := HRV.out
       rw [hES] at HST hsres hR
       replace HST := Lib.hid HST
       replace HRV := Lib.hid hR
       have HM11 := Lib.hid hM11
       have HK11 := Lib.hid hK11
       have HZ11 := Lib.hid hZ11
       have HR11 := Lib.hid hR11
       clear hR hES hW11 hP11 hM11 hK11 hZ11 hR11 HK10 HZ10 HM10 HP10 HRD k4 kf
       go_wp2_with fail
       refine HST.out.mono ?_; intro e w12 ht12
       cases ES with
       | error y =>
        obtain ⟨rfl, hm⟩ := ht12
        have hR := HRV.out
        simp only [bind, Except.bind] at hR
        subst hR
        go_wp2_with fail
        exact ⟨rfl, rfl, HM11.out.trans hm⟩
       | ok y =>
        obtain ⟨ks, a4⟩ := y
        have hR := HRV.out
        simp only [bind, Except.bind] at hR
        rw [HPV.out] at hR
        subst hR
        obtain ⟨v, hT12, rfl, hP12, hm12⟩ := ht12
        obtain ⟨ko, kc, rfl, -, -⟩ := hT12.form
        obtain ⟨q3, q4, -, -⟩ := hsres
        simp only at q3 q4
        have hs12 := hm12.size
        have hK12 : Blk NDT w1.heap.size #[.int .i64 9, .string ⟨#[]⟩, .int .i64 (ps.length : Int), .slice none 0 0, .slice xo pv.length xc, .int .i64 t.at_] w12 := (hm12.block _ (by omega) (by omega)).trans HK11.out
        have hZ12 : Blk NDT w.heap.size #[.int .i64 0, .string ⟨#[]⟩, .int .i64 0, .slice none 0 0, .slice none 0 0, .int .i64 0] w12 := (hm12.block _ (by omega) (by omega)).trans HZ11.out
        have hR12 := HR11.out.kp (Mv.kp hm12 (by omega))
        have hM12 := HM11.out.trans hm12
        have hT13 := hT12.mono (S' := fun j => New w j ∧ j ≠ w.heap.size ∧ j ≠ w1.heap.size) (fun j hj hl => by unfold New at *; omega)
        have hR13 := hR12.mono (S' := fun j => New w j ∧ j ≠ w.heap.size ∧ j ≠ w1.heap.size) (fun j hj hl => by unfold New; omega)
        have e0 := hK12.c 0 _ rfl
        have e1 := hK12.c 1 _ rfl
        have e2 := hK12.c 2 _ rfl
        have e3 := hK12.c 3 _ rfl
        have e4 := hK12.c 4 _ rfl
        have e5 := hK12.c 5 _ rfl
        have z0 := hZ12.c 0 _ rfl
        have z1 := hZ12.c 1 _ rfl
        have z2 := hZ12.c 2 _ rfl
        have z3 := hZ12.c 3 _ rfl
        have z4 := hZ12.c 4 _ rfl
        have z5 := hZ12.c 5 _ rfl
        have ef := hK12.fz
        have zf := hZ12.fz
        have c2 := hP12.c2
        have f2 := hP12.blk.fz 2
        have wa : IntKind.i64.wrap ((a4 : Int) + 1) = (a4 : Int) + 1 := IntWalk.i64_in _ (by omega)
        have n1 : ¬ w1.heap.size = b := by omega
        have n2 : ¬ w.heap.size = b := by omega
        have n3 : ¬ b = w.heap.size := by omega
        have n4 : ¬ b = w1.heap.size := by omega
        have n5 : ¬ w1.heap.size = w.heap.size := by omega
        have n6 : ¬ w.heap.size = w1.heap.size := by omega
        have HP12 := Lib.hid hP12
        have HM12 := Lib.hid hM12
        have HT12 := Lib.hid hT13
        have HR12 := Lib.hid hR13
        clear hT12 hP12 hm12 hK12 hZ12 hR12 hM12 hT13 hR13 HM11 HK11 HZ11 HR11
        go_wp2_with fail
        refine bodyPost_ret (v := .agg #[.int .i64 9, .string ⟨#[]⟩, .int .i64 (ps.length : Int), .slice ko ks.length kc, .slice xo pv.length xc, .int .i64 t.at_]) (by simp [results, Tryz.results243, go_sem, ndA, z0, z1, z2, z3, z4, z5]) rfl ?_
        refine ⟨_, ⟨_, _, rfl, (((HT12.out.kp (kp_set 3 ?_ _)).kp (kp_set 2 ?_ _)).kp (kp_set6 ?_)).mono (fun j hj _ => hj.1), (((HR12.out.kp (kp_set 3 ?_ _)).kp (kp_set 2 ?_ _)).kp (kp_set6 ?_)).mono (fun j hj _ => hj.1)⟩, rfl, pr_far6 ((HP12.out.far (p := ⟨w1.heap.size, 3, none⟩) n4 (show tb ≠ w1.heap.size by omega) _).setA (a4 + 1)) (by omega) (by omega), mv_set6 ((HM12.out.new (p := ⟨w1.heap.size, 3, none⟩) (show w.heap.size ≤ w1.heap.size by omega) _).set_ 2 _) (Nat.le_refl _)⟩
        all_goals (simp [New]; try omega)
     | false =>
      have hR := HRq.out
      rw [if_pos (by simp)] at hR
      have HTk := HTO.out w5 hb5
      obtain ⟨qo, hqo⟩ : ∃ t, opB L [124] k = t := ⟨_, rfl⟩
      have hok : qo = true → k + 1 < L.length := fun h => HL.out.next (opB_k (hqo.trans h)) (by omega) hk
      unfold takeOpP at hR
      rw [hqo] at HTk hR
      replace HTk := Lib.hid HTk
      clear hqo
      go_wp2_with fail
      refine HTk.out.mono ?_; intro e w6 ht6
      cases qo with
      | false =>
       simp only [Bool.false_eq_true, if_false] at ht6 hR
       try simp only [bind, Except.bind] at hR
       subst hR
       obtain ⟨rfl, hm⟩ := ht6
       go_wp2_with fail
       exact ⟨rfl, rfl, (HM4.out.trans (Mv.of_bel hb5)).trans hm⟩
      | true =>
       simp only [if_true] at ht6 hR
       try simp only [bind, Except.bind] at hR
       obtain ⟨rfl, hP6, hm6⟩ := ht6
       have hs6 := hm6.size
       have HRc := Lib.hid hR
       have HPc := Lib.hid hP6
       have HMc := Lib.hid ((HM4.out.trans (Mv.of_bel hb5)).trans hm6)
       have HKc : Hid (Blk NDT w1.heap.size #[.int .i64 9, .string ⟨#[]⟩, .int .i64 (ps.length : Int), .slice none 0 0, .slice na ps.length nq, .int .i64 t.at_] w6) := Lib.hid ((hm6.block _ (by omega) (by omega)).trans (HK4.out.below hb5 (by omega)))
       have HZc : Hid (Blk NDT w.heap.size z6 w6) := Lib.hid ((hm6.block _ (by omega) (by omega)).trans (HZ4.out.below hb5 (by omega)))
       have HOc := Lib.hid (own_mv (own_below HO4.out hb5) hm6 (show b < w1.heap.size + 1 by omega))
       have hck := hok rfl
       have hak2 : a + 1 ≤ k + 1 := by omega
       clear hR HRq HP4 HM4 HK4 HZ4 HO4 hb5 HTO HI2 hP6 hm6
       go_upto_region 8 with fail
       clear e2
       have HVA := vars_any HL.out HPc.out.drew hck
       have hvres := vars_res (bad := bad) HL.out (L.length + 1) (k + 1) hck
       obtain ⟨EV, hEV⟩ : ∃ E, varsP L bad (L.length + 1) (k + 1) = E := ⟨_, rfl⟩
       have hR := HRc.out
       rw [hEV] at HVA hvres hR
       replace HVA := Lib.hid HVA
       have HRV := Lib.hid hR
       have hvl := names_few HL.out hck hEV
       clear hR hEV HRc
       have hmc := HMc.out.size
       have hlc := HKc.out.lt
       have hS : ∀ v, Blk NDT w1.heap.size #[.int .i64 9, .string ⟨#[]⟩, .int .i64 (ps.length : Int), .slice none 0 0, .slice na ps.length nq, .int .i64 t.at_] v → v.cell? ⟨w1.heap.size, 4, none⟩ = some (.slice na ps.length nq) := fun v hv => hv.c 4 _ rfl
       refine region_pk (fun c a a' w h hq => (show a.defers = [] ∧ _ from ⟨h ▸ (show a'.defers = [] ∧ _ from hq).1, (show a'.defers = [] ∧ _ from hq).2⟩)) (fun HPQ => ?_)
       refine Hd.start (fun v => v.cell? ⟨w1.heap.size, 4, none⟩ = some (.slice na ps.length nq)) (by kernel_rfl) (hS _ (HKc.out.drewN 1)) (fun hH0 => ?_)
       refine Hd.tk 0 1 hH0 ?_ (hQ := fun c a w h => HPQ c _ _ w (put_defers a _ _) h)
       refine Hd.tk 1 4 hH0 ?_ (hQ := fun c a w h => HPQ c _ _ w (put_defers a _ _) h)
       refine Hd.tk 2 3 hH0 ?_ (hQ := fun c a w h => HPQ c _ _ w (put_defers a _ _) h)
       refine Hd.on 3 (fun K hK => ?_)
       go_simp
       refine HVA.out.mono ?_; intro e w9 ht9
       cases EV with
       | error y =>
        obtain ⟨rfl, hm⟩ := ht9
        have hR := HRV.out
        simp only [bind, Except.bind] at hR
        subst hR
        go_simp
        exact ⟨rfl, rfl, (HMc.out.drew).trans hm⟩
       | ok y =>
        obtain ⟨vs, a3⟩ := y
        have hR := HRV.out
        simp only [bind, Except.bind] at hR
        replace HRV := Lib.hid hR
        clear hR
        obtain ⟨vv, hvv, rfl, hP9, hm9⟩ := ht9
        obtain ⟨vo, vc, rfl, hvc1, hvc2⟩ := hvv.form
        obtain ⟨q1, q2, -, -⟩ := hvres
        simp only at q1 q2
        have hvl := hvl vs a3 rfl
        have hs9 : w6.heap.size ≤ w9.heap.size := hm9.size
        have hK9 : Blk NDT w1.heap.size #[.int .i64 9, .string ⟨#[]⟩, .int .i64 (ps.length : Int), .slice none 0 0, .slice na ps.length nq, .int .i64 t.at_] w9 := (hm9.block _ (show w1.heap.size < w6.heap.size by omega) (by omega)).trans HKc.out
        have hZ9 : Blk NDT w.heap.size z6 w9 := (hm9.block _ (show w.heap.size < w6.heap.size by omega) (by omega)).trans HZc.out
        have hO9 := own_mv (w := w6.drew) HOc.out hm9 (show b < w1.heap.size + 1 by omega)
        have hM9 := (HMc.out.drew).trans hm9
        have HK9 := Lib.hid hK9
        have HZ9 := Lib.hid hZ9
        have HO9 := Lib.hid hO9
        have HM9 := Lib.hid hM9
        have HP9 := Lib.hid hP9
        have HVV := Lib.hid hvv
        clear hvv hP9 hm9 hK9 hZ9 hO9 hM9 HPc HMc HKc HZc HOc
        go_simp
        refine hK.out _ _ (hS _ HK9.out) (fun hH1 => ?_)
        clear hK K
        try simp only [Act.put, Hd.sa, Hd.sz, Hd.ss]
        refine Hd.on 4 (fun K hK => ?_)
        refine step_rd (S := New w6.drew) (f := strV) (fun _ => rfl) rfl (.tmp 40) (.tmp 42) 25 9 rfl tI iI (.string ⟨#[]⟩) 16 hiI hI0 hI1 hI2 rfl HO9.out (by simp [Act.eval]) (by simp [Act.eval]) HVV.out (by unfold maxLen; omega) (by omega) (by omega) ?_
        intro v10 w10 hown10 hgrow10 hat10
        have hs10 := hgrow10.size
        have hob : ∀ j, (Value.slice na ps.length nq).ownBlock = some j → w1.heap.size + 1 ≤ j := fun j hj => (HO9.out.lt j hj).1
        have hP10 := HP9.out.grown hgrow10 (fun h => by have := hob _ h; omega) (fun h => by have := hob _ h; omega)
        have hM10 := Mv.grown HM9.out hgrow10 (fun j h => by have := hob _ h; omega)
        have hK10 : Blk NDT w1.heap.size #[.int .i64 9, .string ⟨#[]⟩, .int .i64 (ps.length : Int), .slice none 0 0, .slice na ps.length nq, .int .i64 t.at_] w10 := (hgrow10.block _ (by omega) (fun h => by have := hob _ h.symm; omega)).trans HK9.out
        have hZ10 : Blk NDT w.heap.size z6 w10 := (hgrow10.block _ (by omega) (fun h => by have := hob _ h.symm; omega)).trans HZ9.out
        have hlen2 : (ps ++ vs).length = ps.length + vs.length := List.length_append
        have hown10 : w10.ownsRow (w1.heap.size + 1) 9 1 v10 (ps ++ vs).length ((ps ++ vs).map strV) := by rw [hlen2, List.map_append]; exact hown10
        obtain ⟨pv, hpv⟩ : ∃ l, ps ++ vs = l := ⟨_, rfl⟩
        rw [hpv] at hown10 hlen2
        have HPV := Lib.hid hpv
        clear hpv hlen2
        obtain ⟨xo, xc, rfl, -⟩ := own_slice hown10
        have hRD := Rd.of hown10
        have k4 := hK10.c 4 _ rfl
        have kf := hK10.fz
        have HK10 := Lib.hid hK10
        have HZ10 := Lib.hid hZ10
        have HM10 := Lib.hid hM10
        have HP10 := Lib.hid hP10
        have HRD := Lib.hid hRD
        clear hown10 hgrow10 hat10 hob hP10 hM10 hK10 hZ10 hRD HK9 HZ9 HO9 HM9 HP9 HVV
        refine hK.out _ _ (hS _ HK10.out) (fun hH2 => ?_)
        clear hK K
        try simp only [Act.put, Hd.sa, Hd.sz, Hd.ss]
        refine Hd.tk 5 6 hH2 ?_ (hQ := fun c a w h => HPQ c _ _ w (put_defers a _ _) h)
        refine Hd.la 6 (fun K hK => ?_)
        go_simp
        refine hK.out _ _ ?_
        clear hK K
        try simp only [Act.put, Hd.sa, Hd.sz, Hd.ss]
        obtain ⟨W11, hW11⟩ : ∃ W, w10.setCell ⟨w1.heap.size, 4, none⟩ (.slice xo pv.length xc) = W := ⟨_, rfl⟩
        rw [hW11]
        have hP11 : Pr b L tb tc bad a3 d W11 := by rw [← hW11]; exact HP10.out.far (show b ≠ w1.heap.size by omega) (show tb ≠ w1.heap.size by omega) _
        have hM11 : Mv b w W11 := by rw [← hW11]; exact HM10.out.new (show w.heap.size ≤ w1.heap.size by omega) _
        have hK11 : Blk NDT w1.heap.size #[.int .i64 9, .string ⟨#[]⟩, .int .i64 (ps.length : Int), .slice none 0 0, .slice xo pv.length xc, .int .i64 t.at_] W11 := by rw [← hW11]; exact HK10.out.set_ 4 _ _ rfl
        have hZ11 : Blk NDT w.heap.size z6 W11 := by rw [← hW11]; exact HZ10.out.far (show w.heap.size ≠ w1.heap.size by omega) _
        have hR11 : Rd (fun j => (w1.heap.size + 1) ≤ j) strV W11 (.slice xo pv.length xc) pv := by rw [← hW11]; exact HRD.out.kp (kp_set 4 (by omega) _)
        have hs11 : W11.heap.size = w10.heap.size := by rw [← hW11]; simp [World.setCell]
        have HST := HH.out.stmts (e := 14) hP11 q2 hd (.inr rfl) (by omega)
        have hsres := (PB.all (bad := bad) HL.out f).stmts d 14 a3 [] (.inr rfl) q2 InL.nil
        obtain ⟨ES, hES⟩ : ∃ E, stmtsP L bad f d 14 a3 [] = E := ⟨_, rfl⟩
        have hR := HRV.out
        rw [hES] at HST hsres hR
        replace HST := Lib.hid HST
        replace HRV := Lib.hid hR
        have HM11 := Lib.hid hM11
        have HK11 := Lib.hid hK11
        have HZ11 := Lib.hid hZ11
        have HR11 := Lib.hid hR11
        clear hR hES hW11 hP11 hM11 hK11 hZ11 hR11 HK10 HZ10 HM10 HP10 HRD k4 kf
        go_wp2_with fail
        refine HST.out.mono ?_; intro e w12 ht12
        cases ES with
        | error y =>
         obtain ⟨rfl, hm⟩ := ht12
         have hR := HRV.out
         simp only [bind, Except.bind] at hR
         subst hR
         go_wp2_with fail
         exact ⟨rfl, rfl, HM11.out.trans hm⟩
        | ok y =>
         obtain ⟨ks, a4⟩ := y
         have hR := HRV.out
         simp only [bind, Except.bind] at hR
         rw [HPV.out] at hR
         subst hR
         obtain ⟨v, hT12, rfl, hP12, hm12⟩ := ht12
         obtain ⟨ko, kc, rfl, -, -⟩ := hT12.form
         obtain ⟨q3, q4, -, -⟩ := hsres
         simp only at q3 q4
         have hs12 := hm12.size
         have hK12 : Blk NDT w1.heap.size #[.int .i64 9, .string ⟨#[]⟩, .int .i64 (ps.length : Int), .slice none 0 0, .slice xo pv.length xc, .int .i64 t.at_] w12 := (hm12.block _ (by omega) (by omega)).trans HK11.out
         have hZ12 : Blk NDT w.heap.size #[.int .i64 0, .string ⟨#[]⟩, .int .i64 0, .slice none 0 0, .slice none 0 0, .int .i64 0] w12 := (hm12.block _ (by omega) (by omega)).trans HZ11.out
         have hR12 := HR11.out.kp (Mv.kp hm12 (by omega))
         have hM12 := HM11.out.trans hm12
         have hT13 := hT12.mono (S' := fun j => New w j ∧ j ≠ w.heap.size ∧ j ≠ w1.heap.size) (fun j hj hl => by unfold New at *; omega)
         have hR13 := hR12.mono (S' := fun j => New w j ∧ j ≠ w.heap.size ∧ j ≠ w1.heap.size) (fun j hj hl => by unfold New; omega)
         have e0 := hK12.c 0 _ rfl
         have e1 := hK12.c 1 _ rfl
         have e2 := hK12.c 2 _ rfl
         have e3 := hK12.c 3 _ rfl
         have e4 := hK12.c 4 _ rfl
         have e5 := hK12.c 5 _ rfl
         have z0 := hZ12.c 0 _ rfl
         have z1 := hZ12.c 1 _ rfl
         have z2 := hZ12.c 2 _ rfl
         have z3 := hZ12.c 3 _ rfl
         have z4 := hZ12.c 4 _ rfl
         have z5 := hZ12.c 5 _ rfl
         have ef := hK12.fz
         have zf := hZ12.fz
         have c2 := hP12.c2
         have f2 := hP12.blk.fz 2
         have wa : IntKind.i64.wrap ((a4 : Int) + 1) = (a4 : Int) + 1 := IntWalk.i64_in _ (by omega)
         have n1 : ¬ w1.heap.size = b := by omega
         have n2 : ¬ w.heap.size = b := by omega
         have n3 : ¬ b = w.heap.size := by omega
         have n4 : ¬ b = w1.heap.size := by omega
         have n5 : ¬ w1.heap.size = w.heap.size := by omega
         have n6 : ¬ w.heap.size = w1.heap.size := by omega
         have HP12 := Lib.hid hP12
         have HM12 := Lib.hid hM12
         have HT12 := Lib.hid hT13
         have HR12 := Lib.hid hR13
         clear hT12 hP12 hm12 hK12 hZ12 hR12 hM12 hT13 hR13 HM11 HK11 HZ11 HR11
         go_wp2_with fail
         refine bodyPost_ret (v := .agg #[.int .i64 9, .string ⟨#[]⟩, .int .i64 (ps.length : Int), .slice ko ks.length kc, .slice xo pv.length xc, .int .i64 t.at_]) (by simp [results, Tryz.results243, go_sem, ndA, z0, z1, z2, z3, z4, z5]) rfl ?_
         refine ⟨_, ⟨_, _, rfl, (((HT12.out.kp (kp_set 3 ?_ _)).kp (kp_set 2 ?_ _)).kp (kp_set6 ?_)).mono (fun j hj _ => hj.1), (((HR12.out.kp (kp_set 3 ?_ _)).kp (kp_set 2 ?_ _)).kp (kp_set6 ?_)).mono (fun j hj _ => hj.1)⟩, rfl, pr_far6 ((HP12.out.far (p := ⟨w1.heap.size, 3, none⟩) n4 (show tb ≠ w1.heap.size by omega) _).setA (a4 + 1)) (by omega) (by omega), mv_set6 ((HM12.out.new (p := ⟨w1.heap.size, 3, none⟩) (show w.heap.size ≤ w1.heap.size by omega) _).set_ 2 _) (Nat.le_refl _)⟩
         all_goals (simp [New]; try omega)
end
end Pa
end Go.Proofs.YtbdgoimbddlcoaaGreatDoor
