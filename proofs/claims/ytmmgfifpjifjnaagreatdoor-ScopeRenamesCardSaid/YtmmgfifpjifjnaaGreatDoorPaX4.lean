/- Package parse, the walk, 19: block (wip/gen/gen_paw19.py prints this). · Package parse, the walk, 20: keywords (wip/gen/gen_paw20.py prints this). · Package parse, the walk, 21: all that call themselves, tied. -/
import Derived.Test.YtmmgfifpjifjnaaGreatDoorPaX3
set_option linter.unusedVariables false
namespace Go.Proofs.YtmmgfifpjifjnaaGreatDoor
open Go.RowKit
namespace Pa
open Bs Sm Tr
open Lx (Mv)
section
variable {b : Nat} {L : List Pt} {tb tc : Nat} {bad : Int} {a d f : Nat} {w w' w0 : World} {S S' : Nat → Prop} {K : Nat} {x : Nd}
theorem names_bound (hL : LOk L) : ∀ (f a : Nat) (out : List Bs.Bytes) (r : List Bs.Bytes × Nat), a < L.length → namesP L bad f a out = .ok r → r.1.length + a ≤ out.length + r.2
 | 0, a, out, r, ha, h => by unfold namesP at h; cases h
 | f + 1, a, out, r, ha, h => by
  unfold namesP at h
  split at h
  · cases h; simp
  unfold takeP at h
  split at h
  · rename_i hk
    have := names_bound hL f (a + 1) _ r (hL.next hk (by omega) ha) h
    rw [List.length_append, List.length_singleton] at this
    omega
  cases h
theorem names_few (hL : LOk L) {a : Nat} {EV : PE (List Bs.Bytes × Nat)} (ha : a < L.length) (h : varsP L bad (L.length + 1) a = EV) : ∀ vs a3, EV = .ok (vs, a3) → vs.length ≤ 1100000 := by
 intro vs a3 he
 have hl := hL.len
 rw [he] at h
 unfold varsP at h
 split at h
 · rename_i ho
   have h1 := hL.next (opB_k ho) (by omega) ha
   have := names_bound hL _ _ _ _ h1 h
   have hr := names_res (bad := bad) hL (L.length + 1) (a + 1) [] h1
   rw [h] at hr
   have := hr.2.1
   simp at *
   omega
 cases h; simp
theorem colons_round (hL : LOk L) {g k : Nat} {out : List Bs.Bytes} {R : PE (List Bs.Bytes × Nat)} (hk : k < L.length) (hg : L.length - k < g) (h : colonsP L bad g out k = R) :
  (isK L 16 k = false → R = .ok (out, k)) ∧ (isK L 16 k = true → k + 1 < L.length ∧ (isK L 1 (k + 1) = false → R = .error (stopE L bad (k + 1))) ∧ (isK L 1 (k + 1) = true → k + 1 + 1 < L.length ∧ ∃ g', L.length - (k + 1 + 1) < g' ∧ colonsP L bad g' (out ++ [(now L (k + 1)).word]) (k + 1 + 1) = R)) := by
 cases g with
 | zero => omega
 | succ g =>
  unfold colonsP at h
  refine ⟨fun hq => ?_, fun hq => ?_⟩
  · rw [if_neg (by rw [hq]; simp)] at h; exact h.symm
  rw [if_pos hq] at h
  have h1 := hL.next hq (by omega) hk
  unfold takeP at h
  refine ⟨h1, fun hr => ?_, fun hr => ?_⟩
  · rw [if_neg (by rw [hr]; simp)] at h; exact h.symm
  rw [if_pos hr] at h
  exact ⟨hL.next hr (by omega) h1, g, by omega, h⟩
set_option maxRecDepth 100000 in
set_option maxHeartbeats 3200000 in
theorem block_step (hL : LOk L) (h : PA L bad f) (hP : Pr b L tb tc bad a d w) (ha : a < L.length) (hd : d ≤ 40) (hk13 : isK L 13 a = true) (hf : 16 * (L.length - a) + 1 ≤ f + 1) :
  Calls Tryz.prog 201 #[.pointer (some ⟨b, 0, none⟩)] w (NdO b L tb tc bad d (New w) (blockP L bad (f + 1) d a) w) := by
 have hlen := hL.len
 have hbl := hP.blk.lt
 have htl := hP.lt
 obtain ⟨iI, hiI, hI0, hI1, hI2⟩ := info_parts (show (Tryz.prog.info? 9).map (fun i => (i.zero, i.size, i.bytes)) = some (some (.string ⟨#[]⟩), 1, 16) by kernel_rfl)
 have tI : Tryz.prog.underlying 22 = some (.slice 9) := by kernel_rfl
 have hk1 := hL.next hk13 (by omega) ha
 have hX := alloc_bel w (.cells z6 NDT)
 have HN := Lib.hid (next_any (hP.bel hX) ha hlen)
 obtain ⟨R, hR⟩ : ∃ R, blockP L bad (f + 1) d a = R := ⟨_, rfl⟩
 rw [hR]
 rw [blockP] at hR
 obtain ⟨C, hC⟩ : ∃ C, colonsP L bad (L.length + 1) [] (a + 1) = C := ⟨_, rfl⟩
 rw [hC] at hR
 obtain ⟨t, ht⟩ : ∃ t, now L a = t := ⟨_, rfl⟩
 rw [ht] at HN hR
 have HX := Lib.hid hX
 have HR := Lib.hid hR
 have HC := Lib.hid hC
 have HL := Lib.hid hL
 have HH := Lib.hid h
 have F3 := fld3
 clear hX hR hC ht hP h hL hk13
 unfold ptV at HN
 go_enter Tryz.func201, Tryz.ntmps201
 go_wp2_with fail
 refine HN.out.mono ?_; rintro e w1 ⟨rfl, hP1, hm1⟩
 have hs1 := hm1.size
 simp only [World.size_alloc] at hs1
 have hM1 := (Mv.of_bel (b := b) HX.out).trans hm1
 have hZ1 : Blk NDT w.heap.size z6 w1 := (hm1.block _ (by simp) (by omega)).trans (Blk.made w)
 have hbbA := alloc_bel w1 (.cells #[.int .i64 9, .string ⟨#[]⟩, .int .i64 0, .slice none 0 0, .slice none 0 0, .int .i64 t.at_] NDT)
 have hMkA := Blk.made (T := NDT) (cs := #[.int .i64 9, .string ⟨#[]⟩, .int .i64 0, .slice none 0 0, .slice none 0 0, .int .i64 t.at_]) w1
 have hszA : (w1.alloc (.cells #[.int .i64 9, .string ⟨#[]⟩, .int .i64 0, .slice none 0 0, .slice none 0 0, .int .i64 t.at_] NDT)).heap.size = w1.heap.size + 1 := by simp
 have hP2 := hP1.bel hbbA
 have hM2 := hM1.alloc (.cells #[.int .i64 9, .string ⟨#[]⟩, .int .i64 0, .slice none 0 0, .slice none 0 0, .int .i64 t.at_] NDT)
 have hZ2 := hZ1.alloc (.cells #[.int .i64 9, .string ⟨#[]⟩, .int .i64 0, .slice none 0 0, .slice none 0 0, .int .i64 t.at_] NDT)
 obtain ⟨W2, halA⟩ : ∃ W, w1.alloc (.cells #[.int .i64 9, .string ⟨#[]⟩, .int .i64 0, .slice none 0 0, .slice none 0 0, .int .i64 t.at_] NDT) = W := ⟨_, rfl⟩
 rw [halA] at hMkA hszA hP2 hM2 hZ2
 clear hbbA
 have HP2 := Lib.hid hP2
 have HM2 := Lib.hid hM2
 have HZ2 := Lib.hid hZ2
 have HK2 := Lib.hid hMkA
 clear hP1 hm1 hM1 hZ1 hP2 hM2 hZ2 hMkA
 go_upto_region 2 with fail
 go_loopw [] (fun wr => ∃ (k g : Nat) (ps : List Bs.Bytes) (na : Option Addr) (nq : Nat), k < L.length ∧ a + 1 ≤ k ∧ ps.length ≤ k ∧ L.length - k < g ∧ Hid (colonsP L bad g ps k = C) ∧ Hid (wr.ownsRow (w1.heap.size + 1) 9 1 (.slice na ps.length nq) ps.length (ps.map strV)) ∧ Hid (Blk NDT w1.heap.size #[.int .i64 9, .string ⟨#[]⟩, .int .i64 (ps.length : Int), .slice none 0 0, .slice na ps.length nq, .int .i64 t.at_] wr) ∧ Hid (Blk NDT w.heap.size z6 wr) ∧ Hid (Pr b L tb tc bad k d wr) ∧ Hid (Mv b w wr) ∧ w1.heap.size < wr.heap.size) (fun wr => L.length - atP b wr)
 case atStart => exact ⟨a + 1, L.length + 1, [], none, 0, hk1, Nat.le_refl _, Nat.zero_le _, by omega, HC, Lib.hid (World.ownsRow_nil _ _ _ _), HK2, HZ2, HP2, HM2, by omega⟩
 obtain ⟨k, g, ps, na, nq, hk, hak, hpk, hg, HEk, HOw, HKk, HZk, HPk, HMv, hlt⟩ := hrel
 have hatk := HPk.out.at_
 have hrd := colons_round HL.out hk hg HEk.out
 have HI := Lib.hid (is_any HPk.out hk 16)
 obtain ⟨q, hq⟩ : ∃ t, isK L 16 k = t := ⟨_, rfl⟩
 rw [hq] at HI hrd
 have HRD := Lib.hid hrd
 have hms := HMv.out.size
 have HOL := Lib.hid HOw.out.lt
 clear hrd hq HEk HP2 HM2 HZ2 HK2 HN HC halA
 go_wp2_with fail
 refine HI.out.mono ?_; rintro e w4 ⟨rfl, hb4⟩
 have hs4 := hb4.size
 cases q with
 | true =>
  obtain ⟨hk2, hA, hB⟩ := HRD.out.2 (by first | rfl | trivial)
  have hP4 := HPk.out.bel hb4
  have c2 := hP4.c2
  have f2 := hP4.blk.fz 2
  have wk : IntKind.i64.wrap ((k : Int) + 1) = (k : Int) + 1 := IntWalk.i64_in _ (by omega)
  obtain ⟨W5, hW5⟩ : ∃ W, w4.setCell ⟨b, 2, none⟩ (.int .i64 ((k : Int) + 1)) = W := ⟨_, rfl⟩
  have hP5 : Pr b L tb tc bad (k + 1) d W5 := by rw [← hW5]; exact hP4.setA (k + 1)
  have hM5 : Mv b w W5 := by rw [← hW5]; exact (HMv.out.trans (Mv.of_bel hb4)).set_ 2 _
  have hK5 : Blk NDT w1.heap.size #[.int .i64 9, .string ⟨#[]⟩, .int .i64 (ps.length : Int), .slice none 0 0, .slice na ps.length nq, .int .i64 t.at_] W5 := by rw [← hW5]; exact (HKk.out.below hb4 (by omega)).far (show w1.heap.size ≠ b by omega) _
  have hZ5 : Blk NDT w.heap.size z6 W5 := by rw [← hW5]; exact (HZk.out.below hb4 (by omega)).far (show w.heap.size ≠ b by omega) _
  have hO5 : W5.ownsRow (w1.heap.size + 1) 9 1 (.slice na ps.length nq) ps.length (ps.map strV) := by rw [← hW5]; exact ownsRow_setCell_below (own_below HOw.out hb4) (show b < w1.heap.size + 1 by omega) _
  have hs5 : W5.heap.size = w4.heap.size := by rw [← hW5]; simp [World.setCell]
  have HT := take_any hP5.drew hk2 hlen 1
  obtain ⟨r, hr⟩ : ∃ t, isK L 1 (k + 1) = t := ⟨_, rfl⟩
  obtain ⟨u, hu⟩ : ∃ t, now L (k + 1) = t := ⟨_, rfl⟩
  rw [hr] at hA hB HT
  rw [hu] at hB HT
  have hwl : u.word.length ≤ 4096 := by rw [← hu]; exact HL.out.word _ hk2
  replace HT := Lib.hid HT
  have HA := Lib.hid hA
  have HB := Lib.hid hB
  have HM5 := Lib.hid hM5
  have HK5 := Lib.hid hK5
  have HZ5 := Lib.hid hZ5
  have HO5 := Lib.hid hO5
  clear HRD hA hB hr hu hP4 hP5 hM5 hK5 hZ5 hO5 hb4 HOw HKk HZk HPk HMv
  go_upto_region 4 with fail
  clear c2 f2 hW5
  have F1 := fld1
  have hS : ∀ v, Blk NDT w1.heap.size #[.int .i64 9, .string ⟨#[]⟩, .int .i64 (ps.length : Int), .slice none 0 0, .slice na ps.length nq, .int .i64 t.at_] v → v.cell? ⟨w1.heap.size, 4, none⟩ = some (.slice na ps.length nq) := fun v hv => hv.c 4 _ rfl
  refine region_pk (fun c a a' w h hq => (show a.defers = [] ∧ _ from ⟨h ▸ (show a'.defers = [] ∧ _ from hq).1, (show a'.defers = [] ∧ _ from hq).2⟩)) (fun HPQ => ?_)
  refine Hd.start (fun v => v.cell? ⟨w1.heap.size, 4, none⟩ = some (.slice na ps.length nq)) (by kernel_rfl) (hS _ (HK5.out.drewN 1)) (fun hH0 => ?_)
  refine Hd.tk 0 1 hH0 ?_ (hQ := fun c a w h => HPQ c _ _ w (put_defers a _ _) h)
  refine Hd.tk 1 6 hH0 ?_ (hQ := fun c a w h => HPQ c _ _ w (put_defers a _ _) h)
  refine Hd.tk 2 3 hH0 ?_ (hQ := fun c a w h => HPQ c _ _ w (put_defers a _ _) h)
  refine Hd.on 3 (fun K hK => ?_)
  go_simp
  refine HT.out.mono ?_; intro e w6 ht6
  cases r with
  | false =>
   simp only [Bool.false_eq_true, if_false] at ht6
   obtain ⟨rfl, hm⟩ := ht6
   have hE := HA.out (by first | rfl | trivial)
   subst hE
   have hR := HR.out
   simp only [bind, Except.bind] at hR
   subst hR
   go_simp
   exact ⟨rfl, rfl, (HM5.out.drew).trans hm⟩
  | true =>
   simp only [if_true] at ht6
   obtain ⟨rfl, hP6, hm6⟩ := ht6
   obtain ⟨hk3, g', hg', hE'⟩ := HB.out (by first | rfl | trivial)
   have HE' := Lib.hid hE'
   have hs6 : W5.heap.size ≤ w6.heap.size := hm6.size
   have hK6 : Blk NDT w1.heap.size #[.int .i64 9, .string ⟨#[]⟩, .int .i64 (ps.length : Int), .slice none 0 0, .slice na ps.length nq, .int .i64 t.at_] w6 := (hm6.block _ (show w1.heap.size < W5.heap.size by omega) (by omega)).trans HK5.out
   have hZ6 : Blk NDT w.heap.size z6 w6 := (hm6.block _ (show w.heap.size < W5.heap.size by omega) (by omega)).trans HZ5.out
   have hO6 := own_mv (w := W5.drew) HO5.out hm6 (show b < w1.heap.size + 1 by omega)
   have hM6 := (HM5.out.drew).trans hm6
   have HK6 := Lib.hid hK6
   have HZ6 := Lib.hid hZ6
   have HO6 := Lib.hid hO6
   have HM6 := Lib.hid hM6
   have HP6 := Lib.hid hP6
   clear hE' hP6 hm6 hK6 hZ6 hO6 hM6 HM5 HK5 HZ5 HO5 HA HB
   unfold ptV
   go_simp
   refine hK.out _ _ (hS _ HK6.out) (fun hH1 => ?_)
   clear hK K
   try simp only [Act.put, Hd.sa, Hd.sz, Hd.ss]
   refine Hd.tk 4 5 hH1 ?_ (hQ := fun c a w h => HPQ c _ _ w (put_defers a _ _) h)
   have hP6 := HP6.out
   have hM6 := HM6.out
   have hK6 := HK6.out
   have hZ6 := HZ6.out
   have hO6 := Lib.hid (own_below HO6.out (alloc_bel w6 (.cells #[.string ⟨u.word.toArray⟩] 9)))
   have hbbB := alloc_bel w6 (.cells #[.string ⟨u.word.toArray⟩] 9)
   have hMkB := Blk.made (T := 9) (cs := #[.string ⟨u.word.toArray⟩]) w6
   have hszB : (w6.alloc (.cells #[.string ⟨u.word.toArray⟩] 9)).heap.size = w6.heap.size + 1 := by simp
   have hP7 := hP6.bel hbbB
   have hM7 := hM6.alloc (.cells #[.string ⟨u.word.toArray⟩] 9)
   have hK7 := hK6.alloc (.cells #[.string ⟨u.word.toArray⟩] 9)
   have hZ7 := hZ6.alloc (.cells #[.string ⟨u.word.toArray⟩] 9)
   obtain ⟨W7, halB⟩ : ∃ W, w6.alloc (.cells #[.string ⟨u.word.toArray⟩] 9) = W := ⟨_, rfl⟩
   rw [halB] at hMkB hszB hP7 hM7 hK7 hZ7
   clear hbbB
   rw [halB] at hO6
   have hnews := World.news_of_block hMkB
   have HP7 := Lib.hid hP7
   have HM7 := Lib.hid hM7
   have HK7 := Lib.hid hK7
   have HZ7 := Lib.hid hZ7
   have HO7 := hO6
   have HNEWS := Lib.hid hnews
   have hms7 := hM7.size
   clear hP6 hM6 hK6 hZ6 hO6 hP7 hM7 hK7 hZ7 hnews hMkB HP6 HM6 HK6 HZ6 HO6
   refine Hd.on 5 (fun K hK => ?_)
   go_simp
   refine hK.out _ _ (hS _ HK7.out) (fun hH2 => ?_)
   clear hK K
   try simp only [Act.put, Hd.sa, Hd.sz, Hd.ss]
   refine Hd.on 6 (fun K hK => ?_)
   refine step_append_lies _ rfl (.tmp 18) (.tmp 22) 22 rfl (w1.heap.size + 1) 9 iI (.string ⟨#[]⟩) 1 16 tI hiI hI0 hI1 hI2 rfl (by decide) _ ps.length (ps.map strV) (by simp [Act.eval]) HO7.out ⟨w6.heap.size, 0, none⟩ 1 1 [.string ⟨u.word.toArray⟩] (by simp [Act.eval]) rfl HNEWS.out (fun x hx => by simp at hx; subst hx; rfl) (by decide) (by unfold maxLen; omega) (by omega) (by omega) _ rfl ?_
   intro gb cap w8 hown8 hgrow8 hat8 hlt8
   have hs8 := hgrow8.size
   have hob : ∀ j, (Value.slice na ps.length nq).ownBlock = some j → w1.heap.size + 1 ≤ j := fun j hj => (HO7.out.lt j hj).1
   have hP8 := HP7.out.grown hgrow8 (fun h => by have := hob _ h; omega) (fun h => by have := hob _ h; omega)
   have hM8 := Mv.grown HM7.out hgrow8 (fun j h => by have := hob _ h; omega)
   have hK8 : Blk NDT w1.heap.size #[.int .i64 9, .string ⟨#[]⟩, .int .i64 (ps.length : Int), .slice none 0 0, .slice na ps.length nq, .int .i64 t.at_] w8 := (hgrow8.block _ (by omega) (fun h => by have := hob _ h.symm; omega)).trans HK7.out
   have hZ8 : Blk NDT w.heap.size z6 w8 := (hgrow8.block _ (by omega) (fun h => by have := hob _ h.symm; omega)).trans HZ7.out
   have e2 := hK8.c 2 _ rfl
   have e4 := hK8.c 4 _ rfl
   have ef := hK8.fz
   have HP8 := Lib.hid hP8
   have HM8 := Lib.hid hM8
   have HK8 := Lib.hid hK8
   have HZ8 := Lib.hid hZ8
   have HO8 := Lib.hid hown8
   clear hgrow8 hat8 hown8 hP8 hM8 hK8 hZ8 hob HP7 HM7 HK7 HZ7 HO7 HNEWS halB
   refine hK.out _ _ (hS _ HK8.out) (fun hH3 => ?_)
   clear hK K
   try simp only [Act.put, Hd.sa, Hd.sz, Hd.ss]
   refine Hd.tk 7 8 hH3 ?_ (hQ := fun c a w h => HPQ c _ _ w (put_defers a _ _) h)
   refine Hd.la 8 (fun K hK => ?_)
   go_simp
   refine hK.out _ _ ?_
   clear hK K
   try simp only [Act.put, Hd.sa, Hd.sz, Hd.ss]
   have wn : IntKind.i64.wrap ((ps.length : Int) + 1) = (ps.length : Int) + 1 := IntWalk.i64_in _ (by omega)
   go_wp2_with fail
   have hlo : (ps ++ [u.word]).length = ps.length + 1 := by simp
   have hPf := ((HP8.out.far (p := ⟨w1.heap.size, 4, none⟩) (show b ≠ w1.heap.size by omega) (show tb ≠ w1.heap.size by omega) (.slice (some ⟨gb, 0, none⟩) (ps.length + 1) cap)).far (p := ⟨w1.heap.size, 2, none⟩) (show b ≠ w1.heap.size by omega) (show tb ≠ w1.heap.size by omega) (.int .i64 ((ps.length : Int) + 1)))
   refine ⟨⟨k + 1 + 1, g', ps ++ [u.word], some ⟨gb, 0, none⟩, cap, hk3, by omega, by rw [hlo]; omega, hg', HE', Lib.hid ?_, Lib.hid ?_, Lib.hid ((HZ8.out.far (p := ⟨w1.heap.size, 4, none⟩) (show w.heap.size ≠ w1.heap.size by omega) _).far (p := ⟨w1.heap.size, 2, none⟩) (show w.heap.size ≠ w1.heap.size by omega) _), Lib.hid hPf, Lib.hid ((HM8.out.new (p := ⟨w1.heap.size, 4, none⟩) (show w.heap.size ≤ w1.heap.size by omega) _).new (p := ⟨w1.heap.size, 2, none⟩) (show w.heap.size ≤ w1.heap.size by omega) _), by simp [World.setCell]; omega⟩, ?_⟩
   · rw [hlo, List.map_append]
     exact ownsRow_setCell_below (ownsRow_setCell_below HO8.out (show w1.heap.size < w1.heap.size + 1 by omega) _) (show w1.heap.size < w1.heap.size + 1 by omega) _
   · rw [hlo]
     exact (HK8.out.set_ 4 _ _ rfl).set_ 2 _ _ (by simp)
   rw [hPf.at_]; omega
 | false =>
  have hEE := HRD.out.1 (by first | rfl | trivial)
  subst hEE
  have hR := HR.out
  simp only [bind, Except.bind] at hR
  have hP4 := HPk.out.bel hb4
  have hM4 := HMv.out.trans (Mv.of_bel hb4)
  have hK4 := HKk.out.below hb4 (by omega)
  have hZ4 := HZk.out.below hb4 (by omega)
  have hO4 := own_below HOw.out hb4
  have e2 := hK4.c 2 _ rfl
  by_cases hps : ps = []
  · have hz : ¬ (0 : Int) < (ps.length : Int) := by rw [hps]; simp
    have hzd : decide ((0 : Int) < (ps.length : Int)) = false := by rw [decide_eq_false_iff_not]; exact hz
    have hzn : ¬ 0 < ps.length := by rw [hps]; simp
    rw [if_neg (by rw [hps]; simp)] at hR
    try simp only [bind, Except.bind] at hR
    have HRc := Lib.hid hR
    have HPc := Lib.hid hP4
    have HMc := Lib.hid hM4
    have HKc := Lib.hid hK4
    have HZc := Lib.hid hZ4
    have HOc := Lib.hid hO4
    have hck := hk
    have hak2 := hak
    clear hps hR hP4 hM4 hK4 hZ4 hO4 HRD HOw HKk HZk HPk HMv hb4 HR
    go_upto_region 8 with fail
    clear e2
    have HVA := vars_any HL.out HPc.out.drew hck
    have hvres := vars_res (bad := bad) HL.out (L.length + 1) k hck
    obtain ⟨EV, hEV⟩ : ∃ E, varsP L bad (L.length + 1) k = E := ⟨_, rfl⟩
    have hR := HRc.out
    rw [hEV] at HVA hvres hR
    replace HVA := Lib.hid HVA
    have HRV := Lib.hid hR
    have hvl := names_few HL.out hck hEV
    clear hR hEV HRc
    have hmc := HMc.out.size
    have hlc := HKc.out.lt
    have hS : ∀ v, Blk NDT w1.heap.size #[.int .i64 9, .string ⟨#[]⟩, .int .i64 (ps.length : Int), .slice none 0 0, .slice na ps.length nq, .int .i64 t.at_] v → v.cell? ⟨w1.heap.size, 4, none⟩ = some (.slice na ps.length nq) := fun v hv => hv.c 4 _ rfl
    refine region_pk (fun c a a' w h hq => (show a.defers = [] ∧ _ from ⟨h ▸ (show a'.defers = [] ∧ _ from hq).1, (show a'.defers = [] ∧ _ from hq).2⟩)) (fun HPQ => ?_)
    refine Hd.start (fun v => v.cell? ⟨w1.heap.size, 4, none⟩ = some (.slice na ps.length nq)) (by kernel_rfl) (hS _ (HKc.out.drewN 1)) (fun hH0 => ?_)
    refine Hd.tk 0 1 hH0 ?_ (hQ := fun c a w h => HPQ c _ _ w (put_defers a _ _) h)
    refine Hd.tk 1 4 hH0 ?_ (hQ := fun c a w h => HPQ c _ _ w (put_defers a _ _) h)
    refine Hd.tk 2 3 hH0 ?_ (hQ := fun c a w h => HPQ c _ _ w (put_defers a _ _) h)
    refine Hd.on 3 (fun K hK => ?_)
    go_simp
    refine HVA.out.mono ?_; intro e w9 ht9
    cases EV with
    | error y =>
     obtain ⟨rfl, hm⟩ := ht9
     have hR := HRV.out
     simp only [bind, Except.bind] at hR
     subst hR
     go_simp
     exact ⟨rfl, rfl, (HMc.out.drew).trans hm⟩
    | ok y =>
     obtain ⟨vs, a3⟩ := y
     have hR := HRV.out
     simp only [bind, Except.bind] at hR
     replace HRV := Lib.hid hR
     clear hR
     obtain ⟨vv, hvv, rfl, hP9, hm9⟩ := ht9
     obtain ⟨vo, vc, rfl, hvc1, hvc2⟩ := hvv.form
     obtain ⟨q1, q2, -, -⟩ := hvres
     simp only at q1 q2
     have hvl := hvl vs a3 rfl
     have hs9 : w4.heap.size ≤ w9.heap.size := hm9.size
     have hK9 : Blk NDT w1.heap.size #[.int .i64 9, .string ⟨#[]⟩, .int .i64 (ps.length : Int), .slice none 0 0, .slice na ps.length nq, .int .i64 t.at_] w9 := (hm9.block _ (show w1.heap.size < w4.heap.size by omega) (by omega)).trans HKc.out
     have hZ9 : Blk NDT w.heap.size z6 w9 := (hm9.block _ (show w.heap.size < w4.heap.size by omega) (by omega)).trans HZc.out
     have hO9 := own_mv (w := w4.drew) HOc.out hm9 (show b < w1.heap.size + 1 by omega)
     have hM9 := (HMc.out.drew).trans hm9
     have HK9 := Lib.hid hK9
     have HZ9 := Lib.hid hZ9
     have HO9 := Lib.hid hO9
     have HM9 := Lib.hid hM9
     have HP9 := Lib.hid hP9
     have HVV := Lib.hid hvv
     clear hvv hP9 hm9 hK9 hZ9 hO9 hM9 HPc HMc HKc HZc HOc
     go_simp
     refine hK.out _ _ (hS _ HK9.out) (fun hH1 => ?_)
     clear hK K
     try simp only [Act.put, Hd.sa, Hd.sz, Hd.ss]
     refine Hd.on 4 (fun K hK => ?_)
     refine step_rd (S := New w4.drew) (f := strV) (fun _ => rfl) rfl (.tmp 40) (.tmp 42) 22 9 rfl tI iI (.string ⟨#[]⟩) 16 hiI hI0 hI1 hI2 rfl HO9.out (by simp [Act.eval]) (by simp [Act.eval]) HVV.out (by unfold maxLen; omega) (by omega) (by omega) ?_
     intro v10 w10 hown10 hgrow10 hat10
     have hs10 := hgrow10.size
     have hob : ∀ j, (Value.slice na ps.length nq).ownBlock = some j → w1.heap.size + 1 ≤ j := fun j hj => (HO9.out.lt j hj).1
     have hP10 := HP9.out.grown hgrow10 (fun h => by have := hob _ h; omega) (fun h => by have := hob _ h; omega)
     have hM10 := Mv.grown HM9.out hgrow10 (fun j h => by have := hob _ h; omega)
     have hK10 : Blk NDT w1.heap.size #[.int .i64 9, .string ⟨#[]⟩, .int .i64 (ps.length : Int), .slice none 0 0, .slice na ps.length nq, .int .i64 t.at_] w10 := (hgrow10.block _ (by omega) (fun h => by have := hob _ h.symm; omega)).trans HK9.out
     have hZ10 : Blk NDT w.heap.size z6 w10 := (hgrow10.block _ (by omega) (fun h => by have := hob _ h.symm; omega)).trans HZ9.out
     have hlen2 : (ps ++ vs).length = ps.length + vs.length := List.length_append
     have hown10 : w10.ownsRow (w1.heap.size + 1) 9 1 v10 (ps ++ vs).length ((ps ++ vs).map strV) := by rw [hlen2, List.map_append]; exact hown10
     obtain ⟨pv, hpv⟩ : ∃ l, ps ++ vs = l := ⟨_, rfl⟩
     rw [hpv] at hown10 hlen2
     have HPV := Lib.hid hpv
     clear hpv hlen2
     obtain ⟨xo, xc, rfl, -⟩ := own_slice hown10
     have hRD := Rd.of hown10
     have k4 := hK10.c 4 _ rfl
     have kf := hK10.fz
     have HK10 := Lib.hid hK10
     have HZ10 := Lib.hid hZ10
     have HM10 := Lib.hid hM10
     have HP10 := Lib.hid hP10
     have HRD := Lib.hid hRD
     clear hown10 hgrow10 hat10 hob hP10 hM10 hK10 hZ10 hRD HK9 HZ9 HO9 HM9 HP9 HVV
     refine hK.out _ _ (hS _ HK10.out) (fun hH2 => ?_)
     clear hK K
     try simp only [Act.put, Hd.sa, Hd.sz, Hd.ss]
     refine Hd.tk 5 6 hH2 ?_ (hQ := fun c a w h => HPQ c _ _ w (put_defers a _ _) h)
     refine Hd.la 6 (fun K hK => ?_)
     go_simp
     refine hK.out _ _ ?_
     clear hK K
     try simp only [Act.put, Hd.sa, Hd.sz, Hd.ss]
     obtain ⟨W11, hW11⟩ : ∃ W, w10.setCell ⟨w1.heap.size, 4, none⟩ (.slice xo pv.length xc) = W := ⟨_, rfl⟩
     rw [hW11]
     have hP11 : Pr b L tb tc bad a3 d W11 := by rw [← hW11]; exact HP10.out.far (show b ≠ w1.heap.size by omega) (show tb ≠ w1.heap.size by omega) _
     have hM11 : Mv b w W11 := by rw [← hW11]; exact HM10.out.new (show w.heap.size ≤ w1.heap.size by omega) _
     have hK11 : Blk NDT w1.heap.size #[.int .i64 9, .string ⟨#[]⟩, .int .i64 (ps.length : Int), .slice none 0 0, .slice xo pv.length xc, .int .i64 t.at_] W11 := by rw [← hW11]; exact HK10.out.set_ 4 _ _ rfl
     have hZ11 : Blk NDT w.heap.size z6 W11 := by rw [← hW11]; exact HZ10.out.far (show w.heap.size ≠ w1.heap.size by omega) _
     have hR11 : Rd (fun j => (w1.heap.size + 1) ≤ j) strV W11 (.slice xo pv.length xc) pv := by rw [← hW11]; exact HRD.out.kp (kp_set 4 (by omega) _)
     have hs11 : W11.heap.size = w10.heap.size := by rw [← hW11]; simp [World.setCell]
     have HST := HH.out.stmts (e := 14) hP11 q2 hd (.inr rfl) (by omega)
     have hsres := (PB.all (bad := bad) HL.out f).stmts d 14 a3 [] (.inr rfl) q2 InL.nil
     obtain ⟨ES, hES⟩ : ∃ E, stmtsP L bad f d 14 a3 [] = E := ⟨_, rfl⟩
     have hR := HRV.out
     rw [hES] at HST hsres hR
     replace HST := Lib.hid HST
     replace HRV := Lib.hid hR
     have HM11 := Lib.hid hM11
     have HK11 := Lib.hid hK11
     have HZ11 := Lib.hid hZ11
     have HR11 := Lib.hid hR11
     clear hR hES hW11 hP11 hM11 hK11 hZ11 hR11 HK10 HZ10 HM10 HP10 HRD k4 kf
     go_wp2_with fail
     refine HST.out.mono ?_; intro e w12 ht12
     cases ES with
     | error y =>
      obtain ⟨rfl, hm⟩ := ht12
      have hR := HRV.out
      simp only [bind, Except.bind] at hR
      subst hR
      go_wp2_with fail
      exact ⟨rfl, rfl, HM11.out.trans hm⟩
     | ok y =>
      obtain ⟨ks, a4⟩ := y
      have hR := HRV.out
      simp only [bind, Except.bind] at hR
      rw [HPV.out] at hR
      subst hR
      obtain ⟨v, hT12, rfl, hP12, hm12⟩ := ht12
      obtain ⟨ko, kc, rfl, -, -⟩ := hT12.form
      obtain ⟨q3, q4, -, -⟩ := hsres
      simp only at q3 q4
      have hs12 := hm12.size
      have hK12 : Blk NDT w1.heap.size #[.int .i64 9, .string ⟨#[]⟩, .int .i64 (ps.length : Int), .slice none 0 0, .slice xo pv.length xc, .int .i64 t.at_] w12 := (hm12.block _ (by omega) (by omega)).trans HK11.out
      have hZ12 : Blk NDT w.heap.size #[.int .i64 0, .string ⟨#[]⟩, .int .i64 0, .slice none 0 0, .slice none 0 0, .int .i64 0] w12 := (hm12.block _ (by omega) (by omega)).trans HZ11.out
      have hR12 := HR11.out.kp (Mv.kp hm12 (by omega))
      have hM12 := HM11.out.trans hm12
      have hT13 := hT12.mono (S' := fun j => New w j ∧ j ≠ w.heap.size ∧ j ≠ w1.heap.size) (fun j hj hl => by unfold New at *; omega)
      have hR13 := hR12.mono (S' := fun j => New w j ∧ j ≠ w.heap.size ∧ j ≠ w1.heap.size) (fun j hj hl => by unfold New; omega)
      have e0 := hK12.c 0 _ rfl
      have e1 := hK12.c 1 _ rfl
      have e2 := hK12.c 2 _ rfl
      have e3 := hK12.c 3 _ rfl
      have e4 := hK12.c 4 _ rfl
      have e5 := hK12.c 5 _ rfl
      have z0 := hZ12.c 0 _ rfl
      have z1 := hZ12.c 1 _ rfl
      have z2 := hZ12.c 2 _ rfl
      have z3 := hZ12.c 3 _ rfl
      have z4 := hZ12.c 4 _ rfl
      have z5 := hZ12.c 5 _ rfl
      have ef := hK12.fz
      have zf := hZ12.fz
      have c2 := hP12.c2
      have f2 := hP12.blk.fz 2
      have wa : IntKind.i64.wrap ((a4 : Int) + 1) = (a4 : Int) + 1 := IntWalk.i64_in _ (by omega)
      have n1 : ¬ w1.heap.size = b := by omega
      have n2 : ¬ w.heap.size = b := by omega
      have n3 : ¬ b = w.heap.size := by omega
      have n4 : ¬ b = w1.heap.size := by omega
      have n5 : ¬ w1.heap.size = w.heap.size := by omega
      have n6 : ¬ w.heap.size = w1.heap.size := by omega
      have HP12 := Lib.hid hP12
      have HM12 := Lib.hid hM12
      have HT12 := Lib.hid hT13
      have HR12 := Lib.hid hR13
      clear hT12 hP12 hm12 hK12 hZ12 hR12 hM12 hT13 hR13 HM11 HK11 HZ11 HR11
      go_wp2_with fail
      refine bodyPost_ret (v := .agg #[.int .i64 9, .string ⟨#[]⟩, .int .i64 (ps.length : Int), .slice ko ks.length kc, .slice xo pv.length xc, .int .i64 t.at_]) (by simp [results, Tryz.results201, go_sem, ndA, z0, z1, z2, z3, z4, z5]) rfl ?_
      refine ⟨_, ⟨_, _, rfl, (((HT12.out.kp (kp_set 3 ?_ _)).kp (kp_set 2 ?_ _)).kp (kp_set6 ?_)).mono (fun j hj _ => hj.1), (((HR12.out.kp (kp_set 3 ?_ _)).kp (kp_set 2 ?_ _)).kp (kp_set6 ?_)).mono (fun j hj _ => hj.1)⟩, rfl, pr_far6 ((HP12.out.far (p := ⟨w1.heap.size, 3, none⟩) n4 (show tb ≠ w1.heap.size by omega) _).setA (a4 + 1)) (by omega) (by omega), mv_set6 ((HM12.out.new (p := ⟨w1.heap.size, 3, none⟩) (show w.heap.size ≤ w1.heap.size by omega) _).set_ 2 _) (Nat.le_refl _)⟩
      all_goals (simp [New]; try omega)
  have hpl : 0 < ps.length := by cases ps with | nil => exact absurd rfl hps | cons _ _ => simp
  have hz : (0 : Int) < (ps.length : Int) := by omega
  have hzd : decide ((0 : Int) < (ps.length : Int)) = true := by rw [decide_eq_true_eq]; exact hz
  have hzb : ps.isEmpty = false := by cases ps with | nil => exact absurd rfl hps | cons _ _ => rfl
  have HI2 := is_any hP4 hk 14
  have HTO := fun w' (hb : Below w4.heap.size w4 w') => takeOp_any (hP4.bel hb) hk hlen [124]
  obtain ⟨q14, hq14⟩ : ∃ t, isK L 14 k = t := ⟨_, rfl⟩
  rw [hq14] at HI2
  rw [hzb, hq14] at hR
  replace HI2 := Lib.hid HI2
  have HTO := Lib.hid HTO
  have HP4 := Lib.hid hP4
  have HM4 := Lib.hid hM4
  have HK4 := Lib.hid hK4
  have HZ4 := Lib.hid hZ4
  have HO4 := Lib.hid hO4
  have HRq := Lib.hid hR
  clear hps hR hP4 hM4 hK4 hZ4 hO4 HRD HOw HKk HZk HPk HMv hb4 HR hzb hq14
  go_wp2_with fail
  refine HI2.out.mono ?_; rintro e w5 ⟨rfl, hb5⟩
  have hs5 := hb5.size
  cases q14 with
  | true =>
   have hR := HRq.out
   rw [if_neg (by simp)] at hR
   try simp only [bind, Except.bind] at hR
   have HRc := Lib.hid hR
   have HPc := Lib.hid (HP4.out.bel hb5)
   have HMc := Lib.hid (HM4.out.trans (Mv.of_bel hb5))
   have HKc := Lib.hid (HK4.out.below hb5 (by omega))
   have HZc := Lib.hid (HZ4.out.below hb5 (by omega))
   have HOc := Lib.hid (own_below HO4.out hb5)
   have hck := hk
   have hak2 := hak
   clear hR HRq HP4 HM4 HK4 HZ4 HO4 hb5 HTO HI2
   go_upto_region 8 with fail
   clear e2
   have HVA := vars_any HL.out HPc.out.drew hck
   have hvres := vars_res (bad := bad) HL.out (L.length + 1) k hck
   obtain ⟨EV, hEV⟩ : ∃ E, varsP L bad (L.length + 1) k = E := ⟨_, rfl⟩
   have hR := HRc.out
   rw [hEV] at HVA hvres hR
   replace HVA := Lib.hid HVA
   have HRV := Lib.hid hR
   have hvl := names_few HL.out hck hEV
   clear hR hEV HRc
   have hmc := HMc.out.size
   have hlc := HKc.out.lt
   have hS : ∀ v, Blk NDT w1.heap.size #[.int .i64 9, .string ⟨#[]⟩, .int .i64 (ps.length : Int), .slice none 0 0, .slice na ps.length nq, .int .i64 t.at_] v → v.cell? ⟨w1.heap.size, 4, none⟩ = some (.slice na ps.length nq) := fun v hv => hv.c 4 _ rfl
   refine region_pk (fun c a a' w h hq => (show a.defers = [] ∧ _ from ⟨h ▸ (show a'.defers = [] ∧ _ from hq).1, (show a'.defers = [] ∧ _ from hq).2⟩)) (fun HPQ => ?_)
   refine Hd.start (fun v => v.cell? ⟨w1.heap.size, 4, none⟩ = some (.slice na ps.length nq)) (by kernel_rfl) (hS _ (HKc.out.drewN 1)) (fun hH0 => ?_)
   refine Hd.tk 0 1 hH0 ?_ (hQ := fun c a w h => HPQ c _ _ w (put_defers a _ _) h)
   refine Hd.tk 1 4 hH0 ?_ (hQ := fun c a w h => HPQ c _ _ w (put_defers a _ _) h)
   refine Hd.tk 2 3 hH0 ?_ (hQ := fun c a w h => HPQ c _ _ w (put_defers a _ _) h)
   refine Hd.on 3 (fun K hK => ?_)
   go_simp
   refine HVA.out.mono ?_; intro e w9 ht9
   cases EV with
   | error y =>
    obtain ⟨rfl, hm⟩ := ht9
    have hR := HRV.out
    simp only [bind, Except.bind] at hR
    subst hR
    go_simp
    exact ⟨rfl, rfl, (HMc.out.drew).trans hm⟩
   | ok y =>
    obtain ⟨vs, a3⟩ := y
    have hR := HRV.out
    simp only [bind, Except.bind] at hR
    replace HRV := Lib.hid hR
    clear hR
    obtain ⟨vv, hvv, rfl, hP9, hm9⟩ := ht9
    obtain ⟨vo, vc, rfl, hvc1, hvc2⟩ := hvv.form
    obtain ⟨q1, q2, -, -⟩ := hvres
    simp only at q1 q2
    have hvl := hvl vs a3 rfl
    have hs9 : w5.heap.size ≤ w9.heap.size := hm9.size
    have hK9 : Blk NDT w1.heap.size #[.int .i64 9, .string ⟨#[]⟩, .int .i64 (ps.length : Int), .slice none 0 0, .slice na ps.length nq, .int .i64 t.at_] w9 := (hm9.block _ (show w1.heap.size < w5.heap.size by omega) (by omega)).trans HKc.out
    have hZ9 : Blk NDT w.heap.size z6 w9 := (hm9.block _ (show w.heap.size < w5.heap.size by omega) (by omega)).trans HZc.out
    have hO9 := own_mv (w := w5.drew) HOc.out hm9 (show b < w1.heap.size + 1 by omega)
    have hM9 := (HMc.out.drew).trans hm9
    have HK9 := Lib.hid hK9
    have HZ9 := Lib.hid hZ9
    have HO9 := Lib.hid hO9
    have HM9 := Lib.hid hM9
    have HP9 := Lib.hid hP9
    have HVV := Lib.hid hvv
    clear hvv hP9 hm9 hK9 hZ9 hO9 hM9 HPc HMc HKc HZc HOc
    go_simp
    refine hK.out _ _ (hS _ HK9.out) (fun hH1 => ?_)
    clear hK K
    try simp only [Act.put, Hd.sa, Hd.sz, Hd.ss]
    refine Hd.on 4 (fun K hK => ?_)
    refine step_rd (S := New w5.drew) (f := strV) (fun _ => rfl) rfl (.tmp 40) (.tmp 42) 22 9 rfl tI iI (.string ⟨#[]⟩) 16 hiI hI0 hI1 hI2 rfl HO9.out (by simp [Act.eval]) (by simp [Act.eval]) HVV.out (by unfold maxLen; omega) (by omega) (by omega) ?_
    intro v10 w10 hown10 hgrow10 hat10
    have hs10 := hgrow10.size
    have hob : ∀ j, (Value.slice na ps.length nq).ownBlock = some j → w1.heap.size + 1 ≤ j := fun j hj => (HO9.out.lt j hj).1
    have hP10 := HP9.out.grown hgrow10 (fun h => by have := hob _ h; omega) (fun h => by have := hob _ h; omega)
    have hM10 := Mv.grown HM9.out hgrow10 (fun j h => by have := hob _ h; omega)
    have hK10 : Blk NDT w1.heap.size #[.int .i64 9, .string ⟨#[]⟩, .int .i64 (ps.length : Int), .slice none 0 0, .slice na ps.length nq, .int .i64 t.at_] w10 := (hgrow10.block _ (by omega) (fun h => by have := hob _ h.symm; omega)).trans HK9.out
    have hZ10 : Blk NDT w.heap.size z6 w10 := (hgrow10.block _ (by omega) (fun h => by have := hob _ h.symm; omega)).trans HZ9.out
    have hlen2 : (ps ++ vs).length = ps.length + vs.length := List.length_append
    have hown10 : w10.ownsRow (w1.heap.size + 1) 9 1 v10 (ps ++ vs).length ((ps ++ vs).map strV) := by rw [hlen2, List.map_append]; exact hown10
    obtain ⟨pv, hpv⟩ : ∃ l, ps ++ vs = l := ⟨_, rfl⟩
    rw [hpv] at hown10 hlen2
    have HPV := Lib.hid hpv
    clear hpv hlen2
    obtain ⟨xo, xc, rfl, -⟩ := own_slice hown10
    have hRD := Rd.of hown10
    have k4 := hK10.c 4 _ rfl
    have kf := hK10.fz
    have HK10 := Lib.hid hK10
    have HZ10 := Lib.hid hZ10
    have HM10 := Lib.hid hM10
    have HP10 := Lib.hid hP10
    have HRD := Lib.hid hRD
    clear hown10 hgrow10 hat10 hob hP10 hM10 hK10 hZ10 hRD HK9 HZ9 HO9 HM9 HP9 HVV
    refine hK.out _ _ (hS _ HK10.out) (fun hH2 => ?_)
    clear hK K
    try simp only [Act.put, Hd.sa, Hd.sz, Hd.ss]
    refine Hd.tk 5 6 hH2 ?_ (hQ := fun c a w h => HPQ c _ _ w (put_defers a _ _) h)
    refine Hd.la 6 (fun K hK => ?_)
    go_simp
    refine hK.out _ _ ?_
    clear hK K
    try simp only [Act.put, Hd.sa, Hd.sz, Hd.ss]
    obtain ⟨W11, hW11⟩ : ∃ W, w10.setCell ⟨w1.heap.size, 4, none⟩ (.slice xo pv.length xc) = W := ⟨_, rfl⟩
    rw [hW11]
    have hP11 : Pr b L tb tc bad a3 d W11 := by rw [← hW11]; exact HP10.out.far (show b ≠ w1.heap.size by omega) (show tb ≠ w1.heap.size by omega) _
    have hM11 : Mv b w W11 := by rw [← hW11]; exact HM10.out.new (show w.heap.size ≤ w1.heap.size by omega) _
    have hK11 : Blk NDT w1.heap.size #[.int .i64 9, .string ⟨#[]⟩, .int .i64 (ps.length : Int), .slice none 0 0, .slice xo pv.length xc, .int .i64 t.at_] W11 := by rw [← hW11]; exact HK10.out.set_ 4 _ _ rfl
    have hZ11 : Blk NDT w.heap.size z6 W11 := by rw [← hW11]; exact HZ10.out.far (show w.heap.size ≠ w1.heap.size by omega) _
    have hR11 : Rd (fun j => (w1.heap.size + 1) ≤ j) strV W11 (.slice xo pv.length xc) pv := by rw [← hW11]; exact HRD.out.kp (kp_set 4 (by omega) _)
    have hs11 : W11.heap.size = w10.heap.size := by rw [← hW11]; simp [World.setCell]
    have HST := HH.out.stmts (e := 14) hP11 q2 hd (.inr rfl) (by omega)
    have hsres := (PB.all (bad := bad) HL.out f).stmts d 14 a3 [] (.inr rfl) q2 InL.nil
    obtain ⟨ES, hES⟩ : ∃ E, stmtsP L bad f d 14 a3 [] = E := ⟨_, rfl⟩
    have hR := HRV.out
    rw [hES] at HST hsres hR
    replace HST := Lib.hid HST
    replace HRV := Lib.hid hR
    have HM11 := Lib.hid hM11
    have HK11 := Lib.hid hK11
    have HZ11 := Lib.hid hZ11
    have HR11 := Lib.hid hR11
    clear hR hES hW11 hP11 hM11 hK11 hZ11 hR11 HK10 HZ10 HM10 HP10 HRD k4 kf
    go_wp2_with fail
    refine HST.out.mono ?_; intro e w12 ht12
    cases ES with
    | error y =>
     obtain ⟨rfl, hm⟩ := ht12
     have hR := HRV.out
     simp only [bind, Except.bind] at hR
     subst hR
     go_wp2_with fail
     exact ⟨rfl, rfl, HM11.out.trans hm⟩
    | ok y =>
     obtain ⟨ks, a4⟩ := y
     have hR := HRV.out
     simp only [bind, Except.bind] at hR
     rw [HPV.out] at hR
     subst hR
     obtain ⟨v, hT12, rfl, hP12, hm12⟩ := ht12
     obtain ⟨ko, kc, rfl, -, -⟩ := hT12.form
     obtain ⟨q3, q4, -, -⟩ := hsres
     simp only at q3 q4
     have hs12 := hm12.size
     have hK12 : Blk NDT w1.heap.size #[.int .i64 9, .string ⟨#[]⟩, .int .i64 (ps.length : Int), .slice none 0 0, .slice xo pv.length xc, .int .i64 t.at_] w12 := (hm12.block _ (by omega) (by omega)).trans HK11.out
     have hZ12 : Blk NDT w.heap.size #[.int .i64 0, .string ⟨#[]⟩, .int .i64 0, .slice none 0 0, .slice none 0 0, .int .i64 0] w12 := (hm12.block _ (by omega) (by omega)).trans HZ11.out
     have hR12 := HR11.out.kp (Mv.kp hm12 (by omega))
     have hM12 := HM11.out.trans hm12
     have hT13 := hT12.mono (S' := fun j => New w j ∧ j ≠ w.heap.size ∧ j ≠ w1.heap.size) (fun j hj hl => by unfold New at *; omega)
     have hR13 := hR12.mono (S' := fun j => New w j ∧ j ≠ w.heap.size ∧ j ≠ w1.heap.size) (fun j hj hl => by unfold New; omega)
     have e0 := hK12.c 0 _ rfl
     have e1 := hK12.c 1 _ rfl
     have e2 := hK12.c 2 _ rfl
     have e3 := hK12.c 3 _ rfl
     have e4 := hK12.c 4 _ rfl
     have e5 := hK12.c 5 _ rfl
     have z0 := hZ12.c 0 _ rfl
     have z1 := hZ12.c 1 _ rfl
     have z2 := hZ12.c 2 _ rfl
     have z3 := hZ12.c 3 _ rfl
     have z4 := hZ12.c 4 _ rfl
     have z5 := hZ12.c 5 _ rfl
     have ef := hK12.fz
     have zf := hZ12.fz
     have c2 := hP12.c2
     have f2 := hP12.blk.fz 2
     have wa : IntKind.i64.wrap ((a4 : Int) + 1) = (a4 : Int) + 1 := IntWalk.i64_in _ (by omega)
     have n1 : ¬ w1.heap.size = b := by omega
     have n2 : ¬ w.heap.size = b := by omega
     have n3 : ¬ b = w.heap.size := by omega
     have n4 : ¬ b = w1.heap.size := by omega
     have n5 : ¬ w1.heap.size = w.heap.size := by omega
     have n6 : ¬ w.heap.size = w1.heap.size := by omega
     have HP12 := Lib.hid hP12
     have HM12 := Lib.hid hM12
     have HT12 := Lib.hid hT13
     have HR12 := Lib.hid hR13
     clear hT12 hP12 hm12 hK12 hZ12 hR12 hM12 hT13 hR13 HM11 HK11 HZ11 HR11
     go_wp2_with fail
     refine bodyPost_ret (v := .agg #[.int .i64 9, .string ⟨#[]⟩, .int .i64 (ps.length : Int), .slice ko ks.length kc, .slice xo pv.length xc, .int .i64 t.at_]) (by simp [results, Tryz.results201, go_sem, ndA, z0, z1, z2, z3, z4, z5]) rfl ?_
     refine ⟨_, ⟨_, _, rfl, (((HT12.out.kp (kp_set 3 ?_ _)).kp (kp_set 2 ?_ _)).kp (kp_set6 ?_)).mono (fun j hj _ => hj.1), (((HR12.out.kp (kp_set 3 ?_ _)).kp (kp_set 2 ?_ _)).kp (kp_set6 ?_)).mono (fun j hj _ => hj.1)⟩, rfl, pr_far6 ((HP12.out.far (p := ⟨w1.heap.size, 3, none⟩) n4 (show tb ≠ w1.heap.size by omega) _).setA (a4 + 1)) (by omega) (by omega), mv_set6 ((HM12.out.new (p := ⟨w1.heap.size, 3, none⟩) (show w.heap.size ≤ w1.heap.size by omega) _).set_ 2 _) (Nat.le_refl _)⟩
     all_goals (simp [New]; try omega)
  | false =>
   have hR := HRq.out
   rw [if_pos (by simp)] at hR
   have HTk := HTO.out w5 hb5
   obtain ⟨qo, hqo⟩ : ∃ t, opB L [124] k = t := ⟨_, rfl⟩
   have hok : qo = true → k + 1 < L.length := fun h => HL.out.next (opB_k (hqo.trans h)) (by omega) hk
   unfold takeOpP at hR
   rw [hqo] at HTk hR
   replace HTk := Lib.hid HTk
   clear hqo
   go_wp2_with fail
   refine HTk.out.mono ?_; intro e w6 ht6
   cases qo with
   | false =>
    simp only [Bool.false_eq_true, if_false] at ht6 hR
    try simp only [bind, Except.bind] at hR
    subst hR
    obtain ⟨rfl, hm⟩ := ht6
    go_wp2_with fail
    exact ⟨rfl, rfl, (HM4.out.trans (Mv.of_bel hb5)).trans hm⟩
   | true =>
    simp only [if_true] at ht6 hR
    try simp only [bind, Except.bind] at hR
    obtain ⟨rfl, hP6, hm6⟩ := ht6
    have hs6 := hm6.size
    have HRc := Lib.hid hR
    have HPc := Lib.hid hP6
    have HMc := Lib.hid ((HM4.out.trans (Mv.of_bel hb5)).trans hm6)
    have HKc : Hid (Blk NDT w1.heap.size #[.int .i64 9, .string ⟨#[]⟩, .int .i64 (ps.length : Int), .slice none 0 0, .slice na ps.length nq, .int .i64 t.at_] w6) := Lib.hid ((hm6.block _ (by omega) (by omega)).trans (HK4.out.below hb5 (by omega)))
    have HZc : Hid (Blk NDT w.heap.size z6 w6) := Lib.hid ((hm6.block _ (by omega) (by omega)).trans (HZ4.out.below hb5 (by omega)))
    have HOc := Lib.hid (own_mv (own_below HO4.out hb5) hm6 (show b < w1.heap.size + 1 by omega))
    have hck := hok rfl
    have hak2 : a + 1 ≤ k + 1 := by omega
    clear hR HRq HP4 HM4 HK4 HZ4 HO4 hb5 HTO HI2 hP6 hm6
    go_upto_region 8 with fail
    clear e2
    have HVA := vars_any HL.out HPc.out.drew hck
    have hvres := vars_res (bad := bad) HL.out (L.length + 1) (k + 1) hck
    obtain ⟨EV, hEV⟩ : ∃ E, varsP L bad (L.length + 1) (k + 1) = E := ⟨_, rfl⟩
    have hR := HRc.out
    rw [hEV] at HVA hvres hR
    replace HVA := Lib.hid HVA
    have HRV := Lib.hid hR
    have hvl := names_few HL.out hck hEV
    clear hR hEV HRc
    have hmc := HMc.out.size
    have hlc := HKc.out.lt
    have hS : ∀ v, Blk NDT w1.heap.size #[.int .i64 9, .string ⟨#[]⟩, .int .i64 (ps.length : Int), .slice none 0 0, .slice na ps.length nq, .int .i64 t.at_] v → v.cell? ⟨w1.heap.size, 4, none⟩ = some (.slice na ps.length nq) := fun v hv => hv.c 4 _ rfl
    refine region_pk (fun c a a' w h hq => (show a.defers = [] ∧ _ from ⟨h ▸ (show a'.defers = [] ∧ _ from hq).1, (show a'.defers = [] ∧ _ from hq).2⟩)) (fun HPQ => ?_)
    refine Hd.start (fun v => v.cell? ⟨w1.heap.size, 4, none⟩ = some (.slice na ps.length nq)) (by kernel_rfl) (hS _ (HKc.out.drewN 1)) (fun hH0 => ?_)
    refine Hd.tk 0 1 hH0 ?_ (hQ := fun c a w h => HPQ c _ _ w (put_defers a _ _) h)
    refine Hd.tk 1 4 hH0 ?_ (hQ := fun c a w h => HPQ c _ _ w (put_defers a _ _) h)
    refine Hd.tk 2 3 hH0 ?_ (hQ := fun c a w h => HPQ c _ _ w (put_defers a _ _) h)
    refine Hd.on 3 (fun K hK => ?_)
    go_simp
    refine HVA.out.mono ?_; intro e w9 ht9
    cases EV with
    | error y =>
     obtain ⟨rfl, hm⟩ := ht9
     have hR := HRV.out
     simp only [bind, Except.bind] at hR
     subst hR
     go_simp
     exact ⟨rfl, rfl, (HMc.out.drew).trans hm⟩
    | ok y =>
     obtain ⟨vs, a3⟩ := y
     have hR := HRV.out
     simp only [bind, Except.bind] at hR
     replace HRV := Lib.hid hR
     clear hR
     obtain ⟨vv, hvv, rfl, hP9, hm9⟩ := ht9
     obtain ⟨vo, vc, rfl, hvc1, hvc2⟩ := hvv.form
     obtain ⟨q1, q2, -, -⟩ := hvres
     simp only at q1 q2
     have hvl := hvl vs a3 rfl
     have hs9 : w6.heap.size ≤ w9.heap.size := hm9.size
     have hK9 : Blk NDT w1.heap.size #[.int .i64 9, .string ⟨#[]⟩, .int .i64 (ps.length : Int), .slice none 0 0, .slice na ps.length nq, .int .i64 t.at_] w9 := (hm9.block _ (show w1.heap.size < w6.heap.size by omega) (by omega)).trans HKc.out
     have hZ9 : Blk NDT w.heap.size z6 w9 := (hm9.block _ (show w.heap.size < w6.heap.size by omega) (by omega)).trans HZc.out
     have hO9 := own_mv (w := w6.drew) HOc.out hm9 (show b < w1.heap.size + 1 by omega)
     have hM9 := (HMc.out.drew).trans hm9
     have HK9 := Lib.hid hK9
     have HZ9 := Lib.hid hZ9
     have HO9 := Lib.hid hO9
     have HM9 := Lib.hid hM9
     have HP9 := Lib.hid hP9
     have HVV := Lib.hid hvv
     clear hvv hP9 hm9 hK9 hZ9 hO9 hM9 HPc HMc HKc HZc HOc
     go_simp
     refine hK.out _ _ (hS _ HK9.out) (fun hH1 => ?_)
     clear hK K
     try simp only [Act.put, Hd.sa, Hd.sz, Hd.ss]
     refine Hd.on 4 (fun K hK => ?_)
     refine step_rd (S := New w6.drew) (f := strV) (fun _ => rfl) rfl (.tmp 40) (.tmp 42) 22 9 rfl tI iI (.string ⟨#[]⟩) 16 hiI hI0 hI1 hI2 rfl HO9.out (by simp [Act.eval]) (by simp [Act.eval]) HVV.out (by unfold maxLen; omega) (by omega) (by omega) ?_
     intro v10 w10 hown10 hgrow10 hat10
     have hs10 := hgrow10.size
     have hob : ∀ j, (Value.slice na ps.length nq).ownBlock = some j → w1.heap.size + 1 ≤ j := fun j hj => (HO9.out.lt j hj).1
     have hP10 := HP9.out.grown hgrow10 (fun h => by have := hob _ h; omega) (fun h => by have := hob _ h; omega)
     have hM10 := Mv.grown HM9.out hgrow10 (fun j h => by have := hob _ h; omega)
     have hK10 : Blk NDT w1.heap.size #[.int .i64 9, .string ⟨#[]⟩, .int .i64 (ps.length : Int), .slice none 0 0, .slice na ps.length nq, .int .i64 t.at_] w10 := (hgrow10.block _ (by omega) (fun h => by have := hob _ h.symm; omega)).trans HK9.out
     have hZ10 : Blk NDT w.heap.size z6 w10 := (hgrow10.block _ (by omega) (fun h => by have := hob _ h.symm; omega)).trans HZ9.out
     have hlen2 : (ps ++ vs).length = ps.length + vs.length := List.length_append
     have hown10 : w10.ownsRow (w1.heap.size + 1) 9 1 v10 (ps ++ vs).length ((ps ++ vs).map strV) := by rw [hlen2, List.map_append]; exact hown10
     obtain ⟨pv, hpv⟩ : ∃ l, ps ++ vs = l := ⟨_, rfl⟩
     rw [hpv] at hown10 hlen2
     have HPV := Lib.hid hpv
     clear hpv hlen2
     obtain ⟨xo, xc, rfl, -⟩ := own_slice hown10
     have hRD := Rd.of hown10
     have k4 := hK10.c 4 _ rfl
     have kf := hK10.fz
     have HK10 := Lib.hid hK10
     have HZ10 := Lib.hid hZ10
     have HM10 := Lib.hid hM10
     have HP10 := Lib.hid hP10
     have HRD := Lib.hid hRD
     clear hown10 hgrow10 hat10 hob hP10 hM10 hK10 hZ10 hRD HK9 HZ9 HO9 HM9 HP9 HVV
     refine hK.out _ _ (hS _ HK10.out) (fun hH2 => ?_)
     clear hK K
     try simp only [Act.put, Hd.sa, Hd.sz, Hd.ss]
     refine Hd.tk 5 6 hH2 ?_ (hQ := fun c a w h => HPQ c _ _ w (put_defers a _ _) h)
     refine Hd.la 6 (fun K hK => ?_)
     go_simp
     refine hK.out _ _ ?_
     clear hK K
     try simp only [Act.put, Hd.sa, Hd.sz, Hd.ss]
     obtain ⟨W11, hW11⟩ : ∃ W, w10.setCell ⟨w1.heap.size, 4, none⟩ (.slice xo pv.length xc) = W := ⟨_, rfl⟩
     rw [hW11]
     have hP11 : Pr b L tb tc bad a3 d W11 := by rw [← hW11]; exact HP10.out.far (show b ≠ w1.heap.size by omega) (show tb ≠ w1.heap.size by omega) _
     have hM11 : Mv b w W11 := by rw [← hW11]; exact HM10.out.new (show w.heap.size ≤ w1.heap.size by omega) _
     have hK11 : Blk NDT w1.heap.size #[.int .i64 9, .string ⟨#[]⟩, .int .i64 (ps.length : Int), .slice none 0 0, .slice xo pv.length xc, .int .i64 t.at_] W11 := by rw [← hW11]; exact HK10.out.set_ 4 _ _ rfl
     have hZ11 : Blk NDT w.heap.size z6 W11 := by rw [← hW11]; exact HZ10.out.far (show w.heap.size ≠ w1.heap.size by omega) _
     have hR11 : Rd (fun j => (w1.heap.size + 1) ≤ j) strV W11 (.slice xo pv.length xc) pv := by rw [← hW11]; exact HRD.out.kp (kp_set 4 (by omega) _)
     have hs11 : W11.heap.size = w10.heap.size := by rw [← hW11]; simp [World.setCell]
     have HST := HH.out.stmts (e := 14) hP11 q2 hd (.inr rfl) (by omega)
     have hsres := (PB.all (bad := bad) HL.out f).stmts d 14 a3 [] (.inr rfl) q2 InL.nil
     obtain ⟨ES, hES⟩ : ∃ E, stmtsP L bad f d 14 a3 [] = E := ⟨_, rfl⟩
     have hR := HRV.out
     rw [hES] at HST hsres hR
     replace HST := Lib.hid HST
     replace HRV := Lib.hid hR
     have HM11 := Lib.hid hM11
     have HK11 := Lib.hid hK11
     have HZ11 := Lib.hid hZ11
     have HR11 := Lib.hid hR11
     clear hR hES hW11 hP11 hM11 hK11 hZ11 hR11 HK10 HZ10 HM10 HP10 HRD k4 kf
     go_wp2_with fail
     refine HST.out.mono ?_; intro e w12 ht12
     cases ES with
     | error y =>
      obtain ⟨rfl, hm⟩ := ht12
      have hR := HRV.out
      simp only [bind, Except.bind] at hR
      subst hR
      go_wp2_with fail
      exact ⟨rfl, rfl, HM11.out.trans hm⟩
     | ok y =>
      obtain ⟨ks, a4⟩ := y
      have hR := HRV.out
      simp only [bind, Except.bind] at hR
      rw [HPV.out] at hR
      subst hR
      obtain ⟨v, hT12, rfl, hP12, hm12⟩ := ht12
      obtain ⟨ko, kc, rfl, -, -⟩ := hT12.form
      obtain ⟨q3, q4, -, -⟩ := hsres
      simp only at q3 q4
      have hs12 := hm12.size
      have hK12 : Blk NDT w1.heap.size #[.int .i64 9, .string ⟨#[]⟩, .int .i64 (ps.length : Int), .slice none 0 0, .slice xo pv.length xc, .int .i64 t.at_] w12 := (hm12.block _ (by omega) (by omega)).trans HK11.out
      have hZ12 : Blk NDT w.heap.size #[.int .i64 0, .string ⟨#[]⟩, .int .i64 0, .slice none 0 0, .slice none 0 0, .int .i64 0] w12 := (hm12.block _ (by omega) (by omega)).trans HZ11.out
      have hR12 := HR11.out.kp (Mv.kp hm12 (by omega))
      have hM12 := HM11.out.trans hm12
      have hT13 := hT12.mono (S' := fun j => New w j ∧ j ≠ w.heap.size ∧ j ≠ w1.heap.size) (fun j hj hl => by unfold New at *; omega)
      have hR13 := hR12.mono (S' := fun j => New w j ∧ j ≠ w.heap.size ∧ j ≠ w1.heap.size) (fun j hj hl => by unfold New; omega)
      have e0 := hK12.c 0 _ rfl
      have e1 := hK12.c 1 _ rfl
      have e2 := hK12.c 2 _ rfl
      have e3 := hK12.c 3 _ rfl
      have e4 := hK12.c 4 _ rfl
      have e5 := hK12.c 5 _ rfl
      have z0 := hZ12.c 0 _ rfl
      have z1 := hZ12.c 1 _ rfl
      have z2 := hZ12.c 2 _ rfl
      have z3 := hZ12.c 3 _ rfl
      have z4 := hZ12.c 4 _ rfl
      have z5 := hZ12.c 5 _ rfl
      have ef := hK12.fz
      have zf := hZ12.fz
      have c2 := hP12.c2
      have f2 := hP12.blk.fz 2
      have wa : IntKind.i64.wrap ((a4 : Int) + 1) = (a4 : Int) + 1 := IntWalk.i64_in _ (by omega)
      have n1 : ¬ w1.heap.size = b := by omega
      have n2 : ¬ w.heap.size = b := by omega
      have n3 : ¬ b = w.heap.size := by omega
      have n4 : ¬ b = w1.heap.size := by omega
      have n5 : ¬ w1.heap.size = w.heap.size := by omega
      have n6 : ¬ w.heap.size = w1.heap.size := by omega
      have HP12 := Lib.hid hP12
      have HM12 := Lib.hid hM12
      have HT12 := Lib.hid hT13
      have HR12 := Lib.hid hR13
      clear hT12 hP12 hm12 hK12 hZ12 hR12 hM12 hT13 hR13 HM11 HK11 HZ11 HR11
      go_wp2_with fail
      refine bodyPost_ret (v := .agg #[.int .i64 9, .string ⟨#[]⟩, .int .i64 (ps.length : Int), .slice ko ks.length kc, .slice xo pv.length xc, .int .i64 t.at_]) (by simp [results, Tryz.results201, go_sem, ndA, z0, z1, z2, z3, z4, z5]) rfl ?_
      refine ⟨_, ⟨_, _, rfl, (((HT12.out.kp (kp_set 3 ?_ _)).kp (kp_set 2 ?_ _)).kp (kp_set6 ?_)).mono (fun j hj _ => hj.1), (((HR12.out.kp (kp_set 3 ?_ _)).kp (kp_set 2 ?_ _)).kp (kp_set6 ?_)).mono (fun j hj _ => hj.1)⟩, rfl, pr_far6 ((HP12.out.far (p := ⟨w1.heap.size, 3, none⟩) n4 (show tb ≠ w1.heap.size by omega) _).setA (a4 + 1)) (by omega) (by omega), mv_set6 ((HM12.out.new (p := ⟨w1.heap.size, 3, none⟩) (show w.heap.size ≤ w1.heap.size by omega) _).set_ 2 _) (Nat.le_refl _)⟩
      all_goals (simp [New]; try omega)
end
end Pa
end Go.Proofs.YtmmgfifpjifjnaaGreatDoor
namespace Go.Proofs.YtmmgfifpjifjnaaGreatDoor
open Go.RowKit
namespace Hd
theorem three {P : Program} {md : Region.Mode} {ops : Array Oper} {Q : Exit → Act → World → Prop} {S : World → Prop} (i j k : Nat) {o p q : Oper} {fuel : Nat} {listed : Array Bool} {a : Act} {w : World} (ho : ops[i]? = some o) (hp : ops[j]? = some p) (hq : ops[k]? = some q) (hr : Region.ready md ops listed = [i, j, k])
  (h : ∀ K' : Act → World → Prop, Shut (∀ a w, S w → (S w → wpE P md ops Q S fuel (listed.setIfInBounds i true) a w) → K' a w) → if Region.wanted o (yielded ops a.tmps) = true then Oper.wp P o a w K' Q else K' (a.put o.dst undef) w)
  (h2 : ∀ K' : Act → World → Prop, Shut (∀ a w, S w → (S w → wpE P md ops Q S fuel (listed.setIfInBounds j true) a w) → K' a w) → if Region.wanted p (yielded ops a.tmps) = true then Oper.wp P p a w K' Q else K' (a.put p.dst undef) w)
  (h3 : ∀ K' : Act → World → Prop, Shut (∀ a w, S w → (S w → wpE P md ops Q S fuel (listed.setIfInBounds k true) a w) → K' a w) → if Region.wanted q (yielded ops a.tmps) = true then Oper.wp P q a w K' Q else K' (a.put q.dst undef) w) : wpE P md ops Q S (fuel + 1) listed a w :=
 ⟨fun h0 => (by rw [hr] at h0; cases h0), fun m hm => by
  rw [hr] at hm
  rcases List.mem_cons.1 hm with rfl | hm
  · exact wpOp_step ho (fun K' hK => h K' (fun a w hS hW => hK a w ⟨fun _ => hS, hW hS⟩))
  rcases List.mem_cons.1 hm with rfl | hm
  · exact wpOp_step hp (fun K' hK => h2 K' (fun a w hS hW => hK a w ⟨fun _ => hS, hW hS⟩))
  obtain rfl := List.mem_singleton.1 hm
  exact wpOp_step hq (fun K' hK => h3 K' (fun a w hS hW => hK a w ⟨fun _ => hS, hW hS⟩))⟩
end Hd
namespace Pa
open Bs Sm Tr
open Lx (Mv)
section
variable {b : Nat} {L : List Pt} {tb tc : Nat} {bad : Int} {a d f : Nat} {w w' w0 : World} {S S' : Nat → Prop} {K : Nat} {x : Nd}
theorem mv_low6 {B k : Nat} {v0 v1 v2 v3 v4 v5 : Value} (h : Below B w0 w) (hk : B ≤ k) : Below B w0 ((((((w.setCell ⟨k, 0, none⟩ v0).setCell ⟨k, 1, none⟩ v1).setCell ⟨k, 2, none⟩ v2).setCell ⟨k, 3, none⟩ v3).setCell ⟨k, 4, none⟩ v4).setCell ⟨k, 5, none⟩ v5) :=
 (((((h.setCell (p := ⟨k, 0, none⟩) hk v0).setCell (p := ⟨k, 1, none⟩) hk v1).setCell (p := ⟨k, 2, none⟩) hk v2).setCell (p := ⟨k, 3, none⟩) hk v3).setCell (p := ⟨k, 4, none⟩) hk v4).setCell (p := ⟨k, 5, none⟩) hk v5
theorem ownT_blk {B g : Nat} {ka na : Option Addr} {kc nc : Nat} (h : Blk NDT g (ndA x ka kc na nc) w) (hB : B ≤ g) (hk : Tree S w (.slice ka x.kids.length kc) x.kids) (hn : Rd S strV w (.slice na x.names.length nc) x.names) (hS : ¬ S g) :
  OwnT NDT B S w (.slice (some ⟨g, 0, none⟩) 1 1) [x] := by
 refine ⟨[(x, .slice ka x.kids.length kc, .slice na x.names.length nc)], rfl, ⟨rfl, .inr ⟨g, 1, ndA x ka kc na nc, rfl, hB, h, Nat.le_refl _, by unfold maxLen; omega, rfl, rfl⟩⟩, fun y hy => ?_⟩
 obtain rfl := List.mem_singleton.1 hy
 exact ⟨hk.mono (fun j hj _ => ⟨hj, fun e => hS (by cases e; exact hj)⟩), hn.mono (fun j hj _ => ⟨hj, fun e => hS (by cases e; exact hj)⟩)⟩
theorem kws_round (hL : LOk L) {g k : Nat} {t : Pt} {nm : Bs.Bytes} {kids : List Nd} {R : PE (Nd × Nat)} (hk : k < L.length) (hg : 16 * (L.length - k) + 1 ≤ g) (h : kwsP L bad g d k t nm kids = R) :
  (isK L 2 k = false → R = .ok (sendN t nm kids, k)) ∧ (isK L 2 k = true → k + 1 < L.length ∧ ∃ g', g = g' + 1 ∧ (binP L bad g' d (k + 1) >>= fun r => kwsP L bad g' d r.2.2 t (nm ++ (now L k).word) (kids ++ [r.1])) = R) := by
 cases g with
 | zero => omega
 | succ g =>
  rw [kwsP] at h
  refine ⟨fun hq => ?_, fun hq => ?_⟩
  · rw [if_neg (by rw [hq]; simp)] at h; exact h.symm
  rw [if_pos hq] at h
  exact ⟨hL.next hq (by omega) hk, g, rfl, h⟩
set_option maxRecDepth 100000 in
set_option maxHeartbeats 3200000 in
theorem kws_step (hL : LOk L) (hall : ∀ g, g ≤ f → PA L bad g) (hP : Pr b L tb tc bad a d w) (ha : a < L.length) (hd : d ≤ 40) {S : Nat → Prop} {v : Value} {x0 : Nd} (hv0 : NdAt S w v x0) (hSb : ¬ S b) (hf : 16 * (L.length - a) + 1 ≤ f + 1) :
  Calls Tryz.prog 178 #[.pointer (some ⟨b, 0, none⟩), v] w (NdO b L tb tc bad d (fun k => S k ∨ New w k) (kwsP L bad (f + 1) d a (now L a) [] [x0]) w) := by
 have hlen := hL.len
 have hbl := hP.blk.lt
 have htl := hP.lt
 obtain ⟨xa, xc, ya, yc, rfl, hTx, hNx⟩ := hv0.form
 have hTx := hTx.mono (S' := fun j => S j ∧ j < w.heap.size) (fun j hj hl => ⟨hj, hl⟩)
 have hNx := hNx.mono (S' := fun j => S j ∧ j < w.heap.size) (fun j hj hl => ⟨hj, hl⟩)
 have hm0 := Mv.refl b w
 unfold ndA
 have hbbA := alloc_bel w (.cells #[.int .i64 x0.kind, .string ⟨x0.name.toArray⟩, .int .i64 x0.num, .slice xa x0.kids.length xc, .slice ya x0.names.length yc, .int .i64 x0.at_] NDT)
 have hMkA := Blk.made (T := NDT) (cs := #[.int .i64 x0.kind, .string ⟨x0.name.toArray⟩, .int .i64 x0.num, .slice xa x0.kids.length xc, .slice ya x0.names.length yc, .int .i64 x0.at_]) w
 have hszA : (w.alloc (.cells #[.int .i64 x0.kind, .string ⟨x0.name.toArray⟩, .int .i64 x0.num, .slice xa x0.kids.length xc, .slice ya x0.names.length yc, .int .i64 x0.at_] NDT)).heap.size = w.heap.size + 1 := by simp
 have hP1 := hP.bel hbbA
 have hM1 := hm0.alloc (.cells #[.int .i64 x0.kind, .string ⟨x0.name.toArray⟩, .int .i64 x0.num, .slice xa x0.kids.length xc, .slice ya x0.names.length yc, .int .i64 x0.at_] NDT)
 have hT1 := hTx.bel hbbA
 have hN1 := hNx.below hbbA
 obtain ⟨W1, halA⟩ : ∃ W, w.alloc (.cells #[.int .i64 x0.kind, .string ⟨x0.name.toArray⟩, .int .i64 x0.num, .slice xa x0.kids.length xc, .slice ya x0.names.length yc, .int .i64 x0.at_] NDT) = W := ⟨_, rfl⟩
 rw [halA] at hMkA hszA hP1 hM1 hT1 hN1
 clear hbbA
 have hbbB := alloc_bel W1 (.cells #[.int .i64 0, .string ⟨#[]⟩, .int .i64 0, .slice none 0 0, .slice none 0 0, .int .i64 0] NDT)
 have hMkB := Blk.made (T := NDT) (cs := #[.int .i64 0, .string ⟨#[]⟩, .int .i64 0, .slice none 0 0, .slice none 0 0, .int .i64 0]) W1
 have hszB : (W1.alloc (.cells #[.int .i64 0, .string ⟨#[]⟩, .int .i64 0, .slice none 0 0, .slice none 0 0, .int .i64 0] NDT)).heap.size = W1.heap.size + 1 := by simp
 have hP2 := hP1.bel hbbB
 have hM2 := hM1.alloc (.cells #[.int .i64 0, .string ⟨#[]⟩, .int .i64 0, .slice none 0 0, .slice none 0 0, .int .i64 0] NDT)
 have hT2 := hT1.bel hbbB
 have hN2 := hN1.below hbbB
 have hB2 := hMkA.alloc (.cells #[.int .i64 0, .string ⟨#[]⟩, .int .i64 0, .slice none 0 0, .slice none 0 0, .int .i64 0] NDT)
 obtain ⟨W2, halB⟩ : ∃ W, W1.alloc (.cells #[.int .i64 0, .string ⟨#[]⟩, .int .i64 0, .slice none 0 0, .slice none 0 0, .int .i64 0] NDT) = W := ⟨_, rfl⟩
 rw [halB] at hMkB hszB hP2 hM2 hT2 hN2 hB2
 clear hbbB
 rw [hszA] at hMkB
 have HN := fun w' (hb : Below W2.heap.size W2 w') => now_any (hP2.bel hb) ha
 have hw2l := hB2.lt
 have hS : ∀ v, Below W2.heap.size W2 v → (v.cell? ⟨w.heap.size, 0, none⟩ = some (.int .i64 x0.kind) ∧ v.cell? ⟨w.heap.size, 1, none⟩ = some (.string ⟨x0.name.toArray⟩) ∧ v.cell? ⟨w.heap.size, 2, none⟩ = some (.int .i64 x0.num) ∧ v.cell? ⟨w.heap.size, 3, none⟩ = some (.slice xa x0.kids.length xc) ∧ v.cell? ⟨w.heap.size, 4, none⟩ = some (.slice ya x0.names.length yc) ∧ v.cell? ⟨w.heap.size, 5, none⟩ = some (.int .i64 x0.at_)) := fun v hv => by
  have h := hB2.below hv hw2l
  exact ⟨h.c 0 _ rfl, h.c 1 _ rfl, h.c 2 _ rfl, h.c 3 _ rfl, h.c 4 _ rfl, h.c 5 _ rfl⟩
 obtain ⟨R, hR⟩ : ∃ R, kwsP L bad (f + 1) d a (now L a) [] [x0] = R := ⟨_, rfl⟩
 rw [hR]
 obtain ⟨t, ht⟩ : ∃ t, now L a = t := ⟨_, rfl⟩
 rw [ht] at HN hR
 replace HN := Lib.hid HN
 have HR := Lib.hid hR
 have HP2 := Lib.hid hP2
 have HM2 := Lib.hid hM2
 have HT2 := Lib.hid hT2
 have HN2 := Lib.hid hN2
 have HB2 := Lib.hid hB2
 have HZ2 := Lib.hid hMkB
 have HALL := Lib.hid hall
 have HL := Lib.hid hL
 clear hP1 hM1 hT1 hN1 hP2 hM2 hT2 hN2 hB2 hMkA hMkB hTx hNx hm0 hP hv0 hall hL hR ht
 unfold ptV at HN
 go_enter Tryz.func178, Tryz.ntmps178
 go_upto_region 1 with fail
 clear halA halB
 go_cut [5] (fun s5 wx => ∃ (K5 g : Nat), s5 = .pointer (some ⟨K5, 0, none⟩) ∧ W2.heap.size ≤ K5 ∧ W2.heap.size ≤ g ∧ g ≠ K5 ∧ Blk NDT K5 #[.int .i64 7, .string ⟨#[]⟩, .int .i64 0, .slice (some ⟨g, 0, none⟩) 1 1, .slice none 0 0, .int .i64 t.at_] wx ∧ Blk NDT g #[.int .i64 x0.kind, .string ⟨x0.name.toArray⟩, .int .i64 x0.num, .slice xa x0.kids.length xc, .slice ya x0.names.length yc, .int .i64 x0.at_] wx ∧ Below W2.heap.size W2 wx)
 case first =>
  have HV0 : Hid (Below W2.heap.size W2 W2.drew) := Lib.hid (Below.refl _ W2).drew
  refine wp_region_noPanic ?_
  refine Hd.start (fun v => (v.cell? ⟨w.heap.size, 0, none⟩ = some (.int .i64 x0.kind) ∧ v.cell? ⟨w.heap.size, 1, none⟩ = some (.string ⟨x0.name.toArray⟩) ∧ v.cell? ⟨w.heap.size, 2, none⟩ = some (.int .i64 x0.num) ∧ v.cell? ⟨w.heap.size, 3, none⟩ = some (.slice xa x0.kids.length xc) ∧ v.cell? ⟨w.heap.size, 4, none⟩ = some (.slice ya x0.names.length yc) ∧ v.cell? ⟨w.heap.size, 5, none⟩ = some (.int .i64 x0.at_))) (by kernel_rfl) (hS _ (Below.refl _ W2).drew) (fun hH0 => ?_)
  obtain ⟨v0, hv0⟩ : ∃ W, W2.drew = W := ⟨_, rfl⟩
  rw [hv0] at HV0 hH0 ⊢
  clear hv0
  refine Hd.tk 0 1 hH0 ?_
  refine Hd.tk 2 3 hH0 ?_
  refine Hd.three 1 3 5 (o := ?_) (p := ?_) (q := ?_) ?_ ?_ ?_ (by kernel_rfl) (fun K hK => ?_) (fun K hK => ?_) (fun K hK => ?_)
  rotate_left 3
  · simp only [Hd.ga, Hd.gs, Hd.gz]
    exact rfl
  · simp only [Hd.ga, Hd.gs, Hd.gz]
    exact rfl
  · simp only [Hd.ga, Hd.gs, Hd.gz]
    exact rfl
  · go_simp
    refine (HN.out v0 HV0.out).mono ?_; rintro e v1 ⟨rfl, hx1⟩
    have HV1 := Lib.hid (HV0.out.trans (hx1.mono HV0.out.size))
    clear hx1
    go_simp
    refine hK.out _ _ (hS _ HV1.out) (fun hS1 => ?_)
    clear hK K
    try simp only [Act.put, Hd.sa, Hd.sz, Hd.ss]
    refine Hd.two 3 5 (o := ?_) (p := ?_) ?_ ?_ (by kernel_rfl) (fun K hK => ?_) (fun K hK => ?_)
    rotate_left 2
    · simp only [Hd.ga, Hd.gs, Hd.gz]
      exact rfl
    · simp only [Hd.ga, Hd.gs, Hd.gz]
      exact rfl
    · go_simp
      have hx2 := alloc_bel v1 (.cells #[.int .i64 x0.kind, .string ⟨x0.name.toArray⟩, .int .i64 x0.num, .slice xa x0.kids.length xc, .slice ya x0.names.length yc, .int .i64 x0.at_] NDT)
      have hy2 := Blk.made (T := NDT) (cs := #[.int .i64 x0.kind, .string ⟨x0.name.toArray⟩, .int .i64 x0.num, .slice xa x0.kids.length xc, .slice ya x0.names.length yc, .int .i64 x0.at_]) v1
      have HV20 := HV1.out.trans (hx2.mono HV1.out.size)
      obtain ⟨v2, he2⟩ : ∃ W, v1.alloc (.cells #[.int .i64 x0.kind, .string ⟨x0.name.toArray⟩, .int .i64 x0.num, .slice xa x0.kids.length xc, .slice ya x0.names.length yc, .int .i64 x0.at_] NDT) = W := ⟨_, rfl⟩
      rw [he2] at hy2 HV20 ⊢
      have HV2 := Lib.hid HV20
      have HV2n := Lib.hid hy2
      have hz2 := HV1.out.size
      clear hx2 hy2 he2 HV20
      refine hK.out _ _ (hS _ HV2.out) (fun hS2 => ?_)
      clear hK K
      try simp only [Act.put, Hd.sa, Hd.sz, Hd.ss]
      refine Hd.two 4 5 (o := ?_) (p := ?_) ?_ ?_ (by kernel_rfl) (fun K hK => ?_) (fun K hK => ?_)
      rotate_left 2
      · simp only [Hd.ga, Hd.gs, Hd.gz]
        exact rfl
      · simp only [Hd.ga, Hd.gs, Hd.gz]
        exact rfl
      · go_simp
        refine (send_any t ⟨#[]⟩ (some ⟨v1.heap.size, 0, none⟩) 1 1 v2).mono ?_; rintro e v3 ⟨rfl, hx3⟩
        have HV3g := Lib.hid (HV2n.out.below hx3 HV2n.out.lt)
        have HV3 := Lib.hid (HV2.out.trans (hx3.mono HV2.out.size))
        clear hx3
        go_simp
        refine hK.out _ _ (hS _ HV3.out) (fun hS3 => ?_)
        clear hK K
        try simp only [Act.put, Hd.sa, Hd.sz, Hd.ss]
        refine Hd.on 5 (fun K hK => ?_)
        go_simp
        have hgk : v1.heap.size ≠ v3.heap.size := Nat.ne_of_lt HV3g.out.lt
        have hx4 := alloc_bel v3 (.cells #[.int .i64 0, .string ⟨#[]⟩, .int .i64 0, .slice none 0 0, .slice none 0 0, .int .i64 0] NDT)
        have hy4 := Blk.made (T := NDT) (cs := #[.int .i64 0, .string ⟨#[]⟩, .int .i64 0, .slice none 0 0, .slice none 0 0, .int .i64 0]) v3
        have HV4g0 := HV3g.out.below hx4 HV3g.out.lt
        have HV40 := HV3.out.trans (hx4.mono HV3.out.size)
        obtain ⟨v4, he4⟩ : ∃ W, v3.alloc (.cells #[.int .i64 0, .string ⟨#[]⟩, .int .i64 0, .slice none 0 0, .slice none 0 0, .int .i64 0] NDT) = W := ⟨_, rfl⟩
        rw [he4] at hy4 HV40 HV4g0 ⊢
        have HV4 := Lib.hid HV40
        have HV4g := Lib.hid HV4g0
        have HV4n := Lib.hid hy4
        have hz4 := HV3.out.size
        clear hx4 hy4 he4 HV40 HV4g0
        refine hK.out _ _ (hS _ HV4.out) (fun hS4 => ?_)
        clear hK K
        try simp only [Act.put, Hd.sa, Hd.sz, Hd.ss]
        have hq := HV4n.out
        have q0 := hq.c 0 _ rfl
        have q1 := hq.c 1 _ rfl
        have q2 := hq.c 2 _ rfl
        have q3 := hq.c 3 _ rfl
        have q4 := hq.c 4 _ rfl
        have q5 := hq.c 5 _ rfl
        have qf := hq.fz
        refine Hd.la 6 (fun K hK => ?_)
        go_simp
        refine hK.out _ _ ?_
        clear hK K
        try simp only [Act.put, Hd.sa, Hd.sz, Hd.ss]
        simp only [NoPanic]
        go_wp2_with fail
        go_meet
        exact ⟨v3.heap.size, v1.heap.size, rfl, HV3.out.size, HV1.out.size, hgk, blk_set6 HV4n.out, blk_far6 HV4g.out hgk, mv_low6 HV4.out HV3.out.size⟩
      go_simp
      have hgk : v1.heap.size ≠ v2.heap.size := Nat.ne_of_lt HV2n.out.lt
      have hx5 := alloc_bel v2 (.cells #[.int .i64 0, .string ⟨#[]⟩, .int .i64 0, .slice none 0 0, .slice none 0 0, .int .i64 0] NDT)
      have hy5 := Blk.made (T := NDT) (cs := #[.int .i64 0, .string ⟨#[]⟩, .int .i64 0, .slice none 0 0, .slice none 0 0, .int .i64 0]) v2
      have HV5g0 := HV2n.out.below hx5 HV2n.out.lt
      have HV50 := HV2.out.trans (hx5.mono HV2.out.size)
      obtain ⟨v5, he5⟩ : ∃ W, v2.alloc (.cells #[.int .i64 0, .string ⟨#[]⟩, .int .i64 0, .slice none 0 0, .slice none 0 0, .int .i64 0] NDT) = W := ⟨_, rfl⟩
      rw [he5] at hy5 HV50 HV5g0 ⊢
      have HV5 := Lib.hid HV50
      have HV5g := Lib.hid HV5g0
      have HV5n := Lib.hid hy5
      have hz5 := HV2.out.size
      clear hx5 hy5 he5 HV50 HV5g0
      refine hK.out _ _ (hS _ HV5.out) (fun hS5 => ?_)
      clear hK K
      try simp only [Act.put, Hd.sa, Hd.sz, Hd.ss]
      refine Hd.on 4 (fun K hK => ?_)
      go_simp
      refine (send_any t ⟨#[]⟩ (some ⟨v1.heap.size, 0, none⟩) 1 1 v5).mono ?_; rintro e v6 ⟨rfl, hx6⟩
      have HV6g := Lib.hid (HV5g.out.below hx6 HV5g.out.lt)
      have HV6k := Lib.hid (HV5n.out.below hx6 HV5n.out.lt)
      have HV6 := Lib.hid (HV5.out.trans (hx6.mono HV5.out.size))
      clear hx6
      go_simp
      refine hK.out _ _ (hS _ HV6.out) (fun hS6 => ?_)
      clear hK K
      try simp only [Act.put, Hd.sa, Hd.sz, Hd.ss]
      have hq := HV6k.out
      have q0 := hq.c 0 _ rfl
      have q1 := hq.c 1 _ rfl
      have q2 := hq.c 2 _ rfl
      have q3 := hq.c 3 _ rfl
      have q4 := hq.c 4 _ rfl
      have q5 := hq.c 5 _ rfl
      have qf := hq.fz
      refine Hd.la 6 (fun K hK => ?_)
      go_simp
      refine hK.out _ _ ?_
      clear hK K
      try simp only [Act.put, Hd.sa, Hd.sz, Hd.ss]
      simp only [NoPanic]
      go_wp2_with fail
      go_meet
      exact ⟨v2.heap.size, v1.heap.size, rfl, HV2.out.size, HV1.out.size, hgk, blk_set6 HV6k.out, blk_far6 HV6g.out hgk, mv_low6 HV6.out HV2.out.size⟩
    go_simp
    have hx7 := alloc_bel v1 (.cells #[.int .i64 0, .string ⟨#[]⟩, .int .i64 0, .slice none 0 0, .slice none 0 0, .int .i64 0] NDT)
    have hy7 := Blk.made (T := NDT) (cs := #[.int .i64 0, .string ⟨#[]⟩, .int .i64 0, .slice none 0 0, .slice none 0 0, .int .i64 0]) v1
    have HV70 := HV1.out.trans (hx7.mono HV1.out.size)
    obtain ⟨v7, he7⟩ : ∃ W, v1.alloc (.cells #[.int .i64 0, .string ⟨#[]⟩, .int .i64 0, .slice none 0 0, .slice none 0 0, .int .i64 0] NDT) = W := ⟨_, rfl⟩
    rw [he7] at hy7 HV70 ⊢
    have HV7 := Lib.hid HV70
    have HV7n := Lib.hid hy7
    have hz7 := HV1.out.size
    clear hx7 hy7 he7 HV70
    refine hK.out _ _ (hS _ HV7.out) (fun hS7 => ?_)
    clear hK K
    try simp only [Act.put, Hd.sa, Hd.sz, Hd.ss]
    refine Hd.on 3 (fun K hK => ?_)
    go_simp
    have hgk : v7.heap.size ≠ v1.heap.size := Nat.ne_of_gt HV7n.out.lt
    have hx8 := alloc_bel v7 (.cells #[.int .i64 x0.kind, .string ⟨x0.name.toArray⟩, .int .i64 x0.num, .slice xa x0.kids.length xc, .slice ya x0.names.length yc, .int .i64 x0.at_] NDT)
    have hy8 := Blk.made (T := NDT) (cs := #[.int .i64 x0.kind, .string ⟨x0.name.toArray⟩, .int .i64 x0.num, .slice xa x0.kids.length xc, .slice ya x0.names.length yc, .int .i64 x0.at_]) v7
    have HV8k0 := HV7n.out.below hx8 HV7n.out.lt
    have HV80 := HV7.out.trans (hx8.mono HV7.out.size)
    obtain ⟨v8, he8⟩ : ∃ W, v7.alloc (.cells #[.int .i64 x0.kind, .string ⟨x0.name.toArray⟩, .int .i64 x0.num, .slice xa x0.kids.length xc, .slice ya x0.names.length yc, .int .i64 x0.at_] NDT) = W := ⟨_, rfl⟩
    rw [he8] at hy8 HV80 HV8k0 ⊢
    have HV8 := Lib.hid HV80
    have HV8k := Lib.hid HV8k0
    have HV8n := Lib.hid hy8
    have hz8 := HV7.out.size
    clear hx8 hy8 he8 HV80 HV8k0
    refine hK.out _ _ (hS _ HV8.out) (fun hS8 => ?_)
    clear hK K
    try simp only [Act.put, Hd.sa, Hd.sz, Hd.ss]
    refine Hd.on 4 (fun K hK => ?_)
    go_simp
    refine (send_any t ⟨#[]⟩ (some ⟨v7.heap.size, 0, none⟩) 1 1 v8).mono ?_; rintro e v9 ⟨rfl, hx9⟩
    have HV9g := Lib.hid (HV8n.out.below hx9 HV8n.out.lt)
    have HV9k := Lib.hid (HV8k.out.below hx9 HV8k.out.lt)
    have HV9 := Lib.hid (HV8.out.trans (hx9.mono HV8.out.size))
    clear hx9
    go_simp
    refine hK.out _ _ (hS _ HV9.out) (fun hS9 => ?_)
    clear hK K
    try simp only [Act.put, Hd.sa, Hd.sz, Hd.ss]
    have hq := HV9k.out
    have q0 := hq.c 0 _ rfl
    have q1 := hq.c 1 _ rfl
    have q2 := hq.c 2 _ rfl
    have q3 := hq.c 3 _ rfl
    have q4 := hq.c 4 _ rfl
    have q5 := hq.c 5 _ rfl
    have qf := hq.fz
    refine Hd.la 6 (fun K hK => ?_)
    go_simp
    refine hK.out _ _ ?_
    clear hK K
    try simp only [Act.put, Hd.sa, Hd.sz, Hd.ss]
    simp only [NoPanic]
    go_wp2_with fail
    go_meet
    exact ⟨v1.heap.size, v7.heap.size, rfl, HV1.out.size, HV7.out.size, hgk, blk_set6 HV9k.out, blk_far6 HV9g.out hgk, mv_low6 HV9.out HV1.out.size⟩
  · go_simp
    have hx10 := alloc_bel v0 (.cells #[.int .i64 x0.kind, .string ⟨x0.name.toArray⟩, .int .i64 x0.num, .slice xa x0.kids.length xc, .slice ya x0.names.length yc, .int .i64 x0.at_] NDT)
    have hy10 := Blk.made (T := NDT) (cs := #[.int .i64 x0.kind, .string ⟨x0.name.toArray⟩, .int .i64 x0.num, .slice xa x0.kids.length xc, .slice ya x0.names.length yc, .int .i64 x0.at_]) v0
    have HV100 := HV0.out.trans (hx10.mono HV0.out.size)
    obtain ⟨v10, he10⟩ : ∃ W, v0.alloc (.cells #[.int .i64 x0.kind, .string ⟨x0.name.toArray⟩, .int .i64 x0.num, .slice xa x0.kids.length xc, .slice ya x0.names.length yc, .int .i64 x0.at_] NDT) = W := ⟨_, rfl⟩
    rw [he10] at hy10 HV100 ⊢
    have HV10 := Lib.hid HV100
    have HV10n := Lib.hid hy10
    have hz10 := HV0.out.size
    clear hx10 hy10 he10 HV100
    refine hK.out _ _ (hS _ HV10.out) (fun hS10 => ?_)
    clear hK K
    try simp only [Act.put, Hd.sa, Hd.sz, Hd.ss]
    refine Hd.two 1 5 (o := ?_) (p := ?_) ?_ ?_ (by kernel_rfl) (fun K hK => ?_) (fun K hK => ?_)
    rotate_left 2
    · simp only [Hd.ga, Hd.gs, Hd.gz]
      exact rfl
    · simp only [Hd.ga, Hd.gs, Hd.gz]
      exact rfl
    · go_simp
      refine (HN.out v10 HV10.out).mono ?_; rintro e v11 ⟨rfl, hx11⟩
      have HV11g := Lib.hid (HV10n.out.below hx11 HV10n.out.lt)
      have HV11 := Lib.hid (HV10.out.trans (hx11.mono HV10.out.size))
      clear hx11
      go_simp
      refine hK.out _ _ (hS _ HV11.out) (fun hS11 => ?_)
      clear hK K
      try simp only [Act.put, Hd.sa, Hd.sz, Hd.ss]
      refine Hd.two 4 5 (o := ?_) (p := ?_) ?_ ?_ (by kernel_rfl) (fun K hK => ?_) (fun K hK => ?_)
      rotate_left 2
      · simp only [Hd.ga, Hd.gs, Hd.gz]
        exact rfl
      · simp only [Hd.ga, Hd.gs, Hd.gz]
        exact rfl
      · go_simp
        refine (send_any t ⟨#[]⟩ (some ⟨v0.heap.size, 0, none⟩) 1 1 v11).mono ?_; rintro e v12 ⟨rfl, hx12⟩
        have HV12g := Lib.hid (HV11g.out.below hx12 HV11g.out.lt)
        have HV12 := Lib.hid (HV11.out.trans (hx12.mono HV11.out.size))
        clear hx12
        go_simp
        refine hK.out _ _ (hS _ HV12.out) (fun hS12 => ?_)
        clear hK K
        try simp only [Act.put, Hd.sa, Hd.sz, Hd.ss]
        refine Hd.on 5 (fun K hK => ?_)
        go_simp
        have hgk : v0.heap.size ≠ v12.heap.size := Nat.ne_of_lt HV12g.out.lt
        have hx13 := alloc_bel v12 (.cells #[.int .i64 0, .string ⟨#[]⟩, .int .i64 0, .slice none 0 0, .slice none 0 0, .int .i64 0] NDT)
        have hy13 := Blk.made (T := NDT) (cs := #[.int .i64 0, .string ⟨#[]⟩, .int .i64 0, .slice none 0 0, .slice none 0 0, .int .i64 0]) v12
        have HV13g0 := HV12g.out.below hx13 HV12g.out.lt
        have HV130 := HV12.out.trans (hx13.mono HV12.out.size)
        obtain ⟨v13, he13⟩ : ∃ W, v12.alloc (.cells #[.int .i64 0, .string ⟨#[]⟩, .int .i64 0, .slice none 0 0, .slice none 0 0, .int .i64 0] NDT) = W := ⟨_, rfl⟩
        rw [he13] at hy13 HV130 HV13g0 ⊢
        have HV13 := Lib.hid HV130
        have HV13g := Lib.hid HV13g0
        have HV13n := Lib.hid hy13
        have hz13 := HV12.out.size
        clear hx13 hy13 he13 HV130 HV13g0
        refine hK.out _ _ (hS _ HV13.out) (fun hS13 => ?_)
        clear hK K
        try simp only [Act.put, Hd.sa, Hd.sz, Hd.ss]
        have hq := HV13n.out
        have q0 := hq.c 0 _ rfl
        have q1 := hq.c 1 _ rfl
        have q2 := hq.c 2 _ rfl
        have q3 := hq.c 3 _ rfl
        have q4 := hq.c 4 _ rfl
        have q5 := hq.c 5 _ rfl
        have qf := hq.fz
        refine Hd.la 6 (fun K hK => ?_)
        go_simp
        refine hK.out _ _ ?_
        clear hK K
        try simp only [Act.put, Hd.sa, Hd.sz, Hd.ss]
        simp only [NoPanic]
        go_wp2_with fail
        go_meet
        exact ⟨v12.heap.size, v0.heap.size, rfl, HV12.out.size, HV0.out.size, hgk, blk_set6 HV13n.out, blk_far6 HV13g.out hgk, mv_low6 HV13.out HV12.out.size⟩
      go_simp
      have hgk : v0.heap.size ≠ v11.heap.size := Nat.ne_of_lt HV11g.out.lt
      have hx14 := alloc_bel v11 (.cells #[.int .i64 0, .string ⟨#[]⟩, .int .i64 0, .slice none 0 0, .slice none 0 0, .int .i64 0] NDT)
      have hy14 := Blk.made (T := NDT) (cs := #[.int .i64 0, .string ⟨#[]⟩, .int .i64 0, .slice none 0 0, .slice none 0 0, .int .i64 0]) v11
      have HV14g0 := HV11g.out.below hx14 HV11g.out.lt
      have HV140 := HV11.out.trans (hx14.mono HV11.out.size)
      obtain ⟨v14, he14⟩ : ∃ W, v11.alloc (.cells #[.int .i64 0, .string ⟨#[]⟩, .int .i64 0, .slice none 0 0, .slice none 0 0, .int .i64 0] NDT) = W := ⟨_, rfl⟩
      rw [he14] at hy14 HV140 HV14g0 ⊢
      have HV14 := Lib.hid HV140
      have HV14g := Lib.hid HV14g0
      have HV14n := Lib.hid hy14
      have hz14 := HV11.out.size
      clear hx14 hy14 he14 HV140 HV14g0
      refine hK.out _ _ (hS _ HV14.out) (fun hS14 => ?_)
      clear hK K
      try simp only [Act.put, Hd.sa, Hd.sz, Hd.ss]
      refine Hd.on 4 (fun K hK => ?_)
      go_simp
      refine (send_any t ⟨#[]⟩ (some ⟨v0.heap.size, 0, none⟩) 1 1 v14).mono ?_; rintro e v15 ⟨rfl, hx15⟩
      have HV15g := Lib.hid (HV14g.out.below hx15 HV14g.out.lt)
      have HV15k := Lib.hid (HV14n.out.below hx15 HV14n.out.lt)
      have HV15 := Lib.hid (HV14.out.trans (hx15.mono HV14.out.size))
      clear hx15
      go_simp
      refine hK.out _ _ (hS _ HV15.out) (fun hS15 => ?_)
      clear hK K
      try simp only [Act.put, Hd.sa, Hd.sz, Hd.ss]
      have hq := HV15k.out
      have q0 := hq.c 0 _ rfl
      have q1 := hq.c 1 _ rfl
      have q2 := hq.c 2 _ rfl
      have q3 := hq.c 3 _ rfl
      have q4 := hq.c 4 _ rfl
      have q5 := hq.c 5 _ rfl
      have qf := hq.fz
      refine Hd.la 6 (fun K hK => ?_)
      go_simp
      refine hK.out _ _ ?_
      clear hK K
      try simp only [Act.put, Hd.sa, Hd.sz, Hd.ss]
      simp only [NoPanic]
      go_wp2_with fail
      go_meet
      exact ⟨v11.heap.size, v0.heap.size, rfl, HV11.out.size, HV0.out.size, hgk, blk_set6 HV15k.out, blk_far6 HV15g.out hgk, mv_low6 HV15.out HV11.out.size⟩
    go_simp
    have hgk : v0.heap.size ≠ v10.heap.size := Nat.ne_of_lt HV10n.out.lt
    have hx16 := alloc_bel v10 (.cells #[.int .i64 0, .string ⟨#[]⟩, .int .i64 0, .slice none 0 0, .slice none 0 0, .int .i64 0] NDT)
    have hy16 := Blk.made (T := NDT) (cs := #[.int .i64 0, .string ⟨#[]⟩, .int .i64 0, .slice none 0 0, .slice none 0 0, .int .i64 0]) v10
    have HV16g0 := HV10n.out.below hx16 HV10n.out.lt
    have HV160 := HV10.out.trans (hx16.mono HV10.out.size)
    obtain ⟨v16, he16⟩ : ∃ W, v10.alloc (.cells #[.int .i64 0, .string ⟨#[]⟩, .int .i64 0, .slice none 0 0, .slice none 0 0, .int .i64 0] NDT) = W := ⟨_, rfl⟩
    rw [he16] at hy16 HV160 HV16g0 ⊢
    have HV16 := Lib.hid HV160
    have HV16g := Lib.hid HV16g0
    have HV16n := Lib.hid hy16
    have hz16 := HV10.out.size
    clear hx16 hy16 he16 HV160 HV16g0
    refine hK.out _ _ (hS _ HV16.out) (fun hS16 => ?_)
    clear hK K
    try simp only [Act.put, Hd.sa, Hd.sz, Hd.ss]
    refine Hd.on 1 (fun K hK => ?_)
    go_simp
    refine (HN.out v16 HV16.out).mono ?_; rintro e v17 ⟨rfl, hx17⟩
    have HV17g := Lib.hid (HV16g.out.below hx17 HV16g.out.lt)
    have HV17k := Lib.hid (HV16n.out.below hx17 HV16n.out.lt)
    have HV17 := Lib.hid (HV16.out.trans (hx17.mono HV16.out.size))
    clear hx17
    go_simp
    refine hK.out _ _ (hS _ HV17.out) (fun hS17 => ?_)
    clear hK K
    try simp only [Act.put, Hd.sa, Hd.sz, Hd.ss]
    refine Hd.on 4 (fun K hK => ?_)
    go_simp
    refine (send_any t ⟨#[]⟩ (some ⟨v0.heap.size, 0, none⟩) 1 1 v17).mono ?_; rintro e v18 ⟨rfl, hx18⟩
    have HV18g := Lib.hid (HV17g.out.below hx18 HV17g.out.lt)
    have HV18k := Lib.hid (HV17k.out.below hx18 HV17k.out.lt)
    have HV18 := Lib.hid (HV17.out.trans (hx18.mono HV17.out.size))
    clear hx18
    go_simp
    refine hK.out _ _ (hS _ HV18.out) (fun hS18 => ?_)
    clear hK K
    try simp only [Act.put, Hd.sa, Hd.sz, Hd.ss]
    have hq := HV18k.out
    have q0 := hq.c 0 _ rfl
    have q1 := hq.c 1 _ rfl
    have q2 := hq.c 2 _ rfl
    have q3 := hq.c 3 _ rfl
    have q4 := hq.c 4 _ rfl
    have q5 := hq.c 5 _ rfl
    have qf := hq.fz
    refine Hd.la 6 (fun K hK => ?_)
    go_simp
    refine hK.out _ _ ?_
    clear hK K
    try simp only [Act.put, Hd.sa, Hd.sz, Hd.ss]
    simp only [NoPanic]
    go_wp2_with fail
    go_meet
    exact ⟨v10.heap.size, v0.heap.size, rfl, HV10.out.size, HV0.out.size, hgk, blk_set6 HV18k.out, blk_far6 HV18g.out hgk, mv_low6 HV18.out HV10.out.size⟩
  go_simp
  have hx19 := alloc_bel v0 (.cells #[.int .i64 0, .string ⟨#[]⟩, .int .i64 0, .slice none 0 0, .slice none 0 0, .int .i64 0] NDT)
  have hy19 := Blk.made (T := NDT) (cs := #[.int .i64 0, .string ⟨#[]⟩, .int .i64 0, .slice none 0 0, .slice none 0 0, .int .i64 0]) v0
  have HV190 := HV0.out.trans (hx19.mono HV0.out.size)
  obtain ⟨v19, he19⟩ : ∃ W, v0.alloc (.cells #[.int .i64 0, .string ⟨#[]⟩, .int .i64 0, .slice none 0 0, .slice none 0 0, .int .i64 0] NDT) = W := ⟨_, rfl⟩
  rw [he19] at hy19 HV190 ⊢
  have HV19 := Lib.hid HV190
  have HV19n := Lib.hid hy19
  have hz19 := HV0.out.size
  clear hx19 hy19 he19 HV190
  refine hK.out _ _ (hS _ HV19.out) (fun hS19 => ?_)
  clear hK K
  try simp only [Act.put, Hd.sa, Hd.sz, Hd.ss]
  refine Hd.two 1 3 (o := ?_) (p := ?_) ?_ ?_ (by kernel_rfl) (fun K hK => ?_) (fun K hK => ?_)
  rotate_left 2
  · simp only [Hd.ga, Hd.gs, Hd.gz]
    exact rfl
  · simp only [Hd.ga, Hd.gs, Hd.gz]
    exact rfl
  · go_simp
    refine (HN.out v19 HV19.out).mono ?_; rintro e v20 ⟨rfl, hx20⟩
    have HV20k := Lib.hid (HV19n.out.below hx20 HV19n.out.lt)
    have HV20 := Lib.hid (HV19.out.trans (hx20.mono HV19.out.size))
    clear hx20
    go_simp
    refine hK.out _ _ (hS _ HV20.out) (fun hS20 => ?_)
    clear hK K
    try simp only [Act.put, Hd.sa, Hd.sz, Hd.ss]
    refine Hd.on 3 (fun K hK => ?_)
    go_simp
    have hgk : v20.heap.size ≠ v0.heap.size := Nat.ne_of_gt HV20k.out.lt
    have hx21 := alloc_bel v20 (.cells #[.int .i64 x0.kind, .string ⟨x0.name.toArray⟩, .int .i64 x0.num, .slice xa x0.kids.length xc, .slice ya x0.names.length yc, .int .i64 x0.at_] NDT)
    have hy21 := Blk.made (T := NDT) (cs := #[.int .i64 x0.kind, .string ⟨x0.name.toArray⟩, .int .i64 x0.num, .slice xa x0.kids.length xc, .slice ya x0.names.length yc, .int .i64 x0.at_]) v20
    have HV21k0 := HV20k.out.below hx21 HV20k.out.lt
    have HV210 := HV20.out.trans (hx21.mono HV20.out.size)
    obtain ⟨v21, he21⟩ : ∃ W, v20.alloc (.cells #[.int .i64 x0.kind, .string ⟨x0.name.toArray⟩, .int .i64 x0.num, .slice xa x0.kids.length xc, .slice ya x0.names.length yc, .int .i64 x0.at_] NDT) = W := ⟨_, rfl⟩
    rw [he21] at hy21 HV210 HV21k0 ⊢
    have HV21 := Lib.hid HV210
    have HV21k := Lib.hid HV21k0
    have HV21n := Lib.hid hy21
    have hz21 := HV20.out.size
    clear hx21 hy21 he21 HV210 HV21k0
    refine hK.out _ _ (hS _ HV21.out) (fun hS21 => ?_)
    clear hK K
    try simp only [Act.put, Hd.sa, Hd.sz, Hd.ss]
    refine Hd.on 4 (fun K hK => ?_)
    go_simp
    refine (send_any t ⟨#[]⟩ (some ⟨v20.heap.size, 0, none⟩) 1 1 v21).mono ?_; rintro e v22 ⟨rfl, hx22⟩
    have HV22g := Lib.hid (HV21n.out.below hx22 HV21n.out.lt)
    have HV22k := Lib.hid (HV21k.out.below hx22 HV21k.out.lt)
    have HV22 := Lib.hid (HV21.out.trans (hx22.mono HV21.out.size))
    clear hx22
    go_simp
    refine hK.out _ _ (hS _ HV22.out) (fun hS22 => ?_)
    clear hK K
    try simp only [Act.put, Hd.sa, Hd.sz, Hd.ss]
    have hq := HV22k.out
    have q0 := hq.c 0 _ rfl
    have q1 := hq.c 1 _ rfl
    have q2 := hq.c 2 _ rfl
    have q3 := hq.c 3 _ rfl
    have q4 := hq.c 4 _ rfl
    have q5 := hq.c 5 _ rfl
    have qf := hq.fz
    refine Hd.la 6 (fun K hK => ?_)
    go_simp
    refine hK.out _ _ ?_
    clear hK K
    try simp only [Act.put, Hd.sa, Hd.sz, Hd.ss]
    simp only [NoPanic]
    go_wp2_with fail
    go_meet
    exact ⟨v0.heap.size, v20.heap.size, rfl, HV0.out.size, HV20.out.size, hgk, blk_set6 HV22k.out, blk_far6 HV22g.out hgk, mv_low6 HV22.out HV0.out.size⟩
  go_simp
  have hgk : v19.heap.size ≠ v0.heap.size := Nat.ne_of_gt HV19n.out.lt
  have hx23 := alloc_bel v19 (.cells #[.int .i64 x0.kind, .string ⟨x0.name.toArray⟩, .int .i64 x0.num, .slice xa x0.kids.length xc, .slice ya x0.names.length yc, .int .i64 x0.at_] NDT)
  have hy23 := Blk.made (T := NDT) (cs := #[.int .i64 x0.kind, .string ⟨x0.name.toArray⟩, .int .i64 x0.num, .slice xa x0.kids.length xc, .slice ya x0.names.length yc, .int .i64 x0.at_]) v19
  have HV23k0 := HV19n.out.below hx23 HV19n.out.lt
  have HV230 := HV19.out.trans (hx23.mono HV19.out.size)
  obtain ⟨v23, he23⟩ : ∃ W, v19.alloc (.cells #[.int .i64 x0.kind, .string ⟨x0.name.toArray⟩, .int .i64 x0.num, .slice xa x0.kids.length xc, .slice ya x0.names.length yc, .int .i64 x0.at_] NDT) = W := ⟨_, rfl⟩
  rw [he23] at hy23 HV230 HV23k0 ⊢
  have HV23 := Lib.hid HV230
  have HV23k := Lib.hid HV23k0
  have HV23n := Lib.hid hy23
  have hz23 := HV19.out.size
  clear hx23 hy23 he23 HV230 HV23k0
  refine hK.out _ _ (hS _ HV23.out) (fun hS23 => ?_)
  clear hK K
  try simp only [Act.put, Hd.sa, Hd.sz, Hd.ss]
  refine Hd.on 1 (fun K hK => ?_)
  go_simp
  refine (HN.out v23 HV23.out).mono ?_; rintro e v24 ⟨rfl, hx24⟩
  have HV24g := Lib.hid (HV23n.out.below hx24 HV23n.out.lt)
  have HV24k := Lib.hid (HV23k.out.below hx24 HV23k.out.lt)
  have HV24 := Lib.hid (HV23.out.trans (hx24.mono HV23.out.size))
  clear hx24
  go_simp
  refine hK.out _ _ (hS _ HV24.out) (fun hS24 => ?_)
  clear hK K
  try simp only [Act.put, Hd.sa, Hd.sz, Hd.ss]
  refine Hd.on 4 (fun K hK => ?_)
  go_simp
  refine (send_any t ⟨#[]⟩ (some ⟨v19.heap.size, 0, none⟩) 1 1 v24).mono ?_; rintro e v25 ⟨rfl, hx25⟩
  have HV25g := Lib.hid (HV24g.out.below hx25 HV24g.out.lt)
  have HV25k := Lib.hid (HV24k.out.below hx25 HV24k.out.lt)
  have HV25 := Lib.hid (HV24.out.trans (hx25.mono HV24.out.size))
  clear hx25
  go_simp
  refine hK.out _ _ (hS _ HV25.out) (fun hS25 => ?_)
  clear hK K
  try simp only [Act.put, Hd.sa, Hd.sz, Hd.ss]
  have hq := HV25k.out
  have q0 := hq.c 0 _ rfl
  have q1 := hq.c 1 _ rfl
  have q2 := hq.c 2 _ rfl
  have q3 := hq.c 3 _ rfl
  have q4 := hq.c 4 _ rfl
  have q5 := hq.c 5 _ rfl
  have qf := hq.fz
  refine Hd.la 6 (fun K hK => ?_)
  go_simp
  refine hK.out _ _ ?_
  clear hK K
  try simp only [Act.put, Hd.sa, Hd.sz, Hd.ss]
  simp only [NoPanic]
  go_wp2_with fail
  go_meet
  exact ⟨v0.heap.size, v19.heap.size, rfl, HV0.out.size, HV19.out.size, hgk, blk_set6 HV25k.out, blk_far6 HV25g.out hgk, mv_low6 HV25.out HV0.out.size⟩
 obtain ⟨K5, g5, rfl, hK5, hg5, hgk, hB5, hG5, hbc⟩ := hcut
 have hsc := hbc.size
 have hOc := ownT_blk (B := W2.heap.size) (S := fun j => S j ∧ j < w.heap.size) hG5 hg5 (HT2.out.bel hbc) (HN2.out.below hbc) (fun h => by have := h.2; omega)
 have HOc := Lib.hid (OwnT.mono (S' := (fun j => (S j ∨ New w j) ∧ j ≠ K5 ∧ j ≠ w.heap.size + 1)) hOc (fun j hj _ => ⟨.inl hj.1, by have := hj.2; omega, by have := hj.2; omega⟩))
 have HPc := Lib.hid (HP2.out.bel hbc)
 have HMc := Lib.hid (HM2.out.trans (Mv.of_bel hbc))
 have HZc := Lib.hid (HZ2.out.below hbc (by omega))
 have HKc := Lib.hid hB5
 have hkl := hB5.lt
 have hms2 := HM2.out.size
 obtain ⟨i0, hi0, hz0, hz1, hz2⟩ := info_parts (show (Tryz.prog.info? NDT).map (fun i => (i.zero, i.size, i.bytes)) = some (some (.agg #[.int .i64 0, .string ⟨#[]⟩, .int .i64 0, .slice none 0 0, .slice none 0 0, .int .i64 0]), 6, 88) by kernel_rfl)
 have tsl : Tryz.prog.underlying 31 = some (.slice NDT) := by kernel_rfl
 have hSB : Hid (¬ ((S b ∨ New w b) ∧ b ≠ K5 ∧ b ≠ w.heap.size + 1)) := Lib.hid (fun hj => by rcases hj.1 with hj | hj; exact hSb hj; unfold New at hj; omega)
 clear hG5 hB5 hOc hbc HP2 HM2 HT2 HN2 HB2 HZ2 HN hS hSb
 go_wp2_with fail
 go_loopw [] (fun wr => ∃ (k g : Nat) (nm : Bs.Bytes) (kids : List Nd) (kg kq : Nat), k < L.length ∧ kids.length ≤ k + 1 ∧ 1 ≤ kids.length ∧ nm.length ≤ k * 4096 ∧ 16 * (L.length - k) + 1 ≤ g ∧ g ≤ f + 1 ∧ Hid (kwsP L bad g d k t nm kids = R) ∧ Hid (OwnT NDT W2.heap.size (fun j => (S j ∨ New w j) ∧ j ≠ K5 ∧ j ≠ w.heap.size + 1) wr (.slice (some ⟨kg, 0, none⟩) kids.length kq) kids) ∧ kg ≠ K5 ∧ Hid (Blk NDT K5 #[.int .i64 7, .string ⟨nm.toArray⟩, .int .i64 0, .slice (some ⟨kg, 0, none⟩) kids.length kq, .slice none 0 0, .int .i64 t.at_] wr) ∧ Hid (Blk NDT (w.heap.size + 1) z6 wr) ∧ Hid (Pr b L tb tc bad k d wr) ∧ Hid (Mv b w wr) ∧ K5 < wr.heap.size) (fun wr => L.length - atP b wr)
 case atStart => exact ⟨a, f + 1, [], [x0], g5, 1, ha, by simp, by simp, by simp, by omega, Nat.le_refl _, HR, HOc, hgk, HKc, HZc, HPc, HMc, hkl⟩
 obtain ⟨k, g, nm, kids, kg, kq, hk, hkk, hk1, hnm, hg, hgf, HEk, HOw, hkg, HKk, HZk, HPk, HMv, hlt⟩ := hrel
 have hatk := HPk.out.at_
 have hrd := kws_round HL.out hk hg HEk.out
 have HI := Lib.hid (is_any HPk.out hk 2)
 obtain ⟨q, hq⟩ : ∃ t, isK L 2 k = t := ⟨_, rfl⟩
 obtain ⟨u, hu⟩ : ∃ t, now L k = t := ⟨_, rfl⟩
 rw [hq] at HI hrd
 rw [hu] at hrd
 have HNX := fun w' (hp : Pr b L tb tc bad k d w') => next_any hp hk hlen
 rw [hu] at HNX
 have hwl : u.word.length ≤ 4096 := by rw [← hu]; exact HL.out.word _ hk
 replace HNX := Lib.hid HNX
 have HRD := Lib.hid hrd
 have hms := HMv.out.size
 have HOL := Lib.hid (ownT_lt HOw.out)
 clear hrd hq hu HEk HOc HPc HMc HZc HKc HR
 go_wp2_with fail
 refine HI.out.mono ?_; rintro e w6 ⟨rfl, hb6⟩
 have hs6 := hb6.size
 cases q with
 | false =>
  have hEE := HRD.out.1 (by first | rfl | trivial)
  subst hEE
  have hB6 := HKk.out.below hb6 (by omega)
  have hZ6 : Blk NDT (w.heap.size + 1) #[.int .i64 0, .string ⟨#[]⟩, .int .i64 0, .slice none 0 0, .slice none 0 0, .int .i64 0] w6 := HZk.out.below hb6 (by omega)
  have hT6 := (HOw.out.bel hb6).tree
  have hP6 := HPk.out.bel hb6
  have hM6 := HMv.out.trans (Mv.of_bel hb6)
  have hkl2 := HOL.out kg rfl
  have e0 := hB6.c 0 _ rfl
  have e1 := hB6.c 1 _ rfl
  have e2 := hB6.c 2 _ rfl
  have e3 := hB6.c 3 _ rfl
  have e4 := hB6.c 4 _ rfl
  have e5 := hB6.c 5 _ rfl
  have z0 := hZ6.c 0 _ rfl
  have z1 := hZ6.c 1 _ rfl
  have z2 := hZ6.c 2 _ rfl
  have z3 := hZ6.c 3 _ rfl
  have z4 := hZ6.c 4 _ rfl
  have z5 := hZ6.c 5 _ rfl
  have zf := hZ6.fz
  have HT6 := Lib.hid hT6
  have HP6 := Lib.hid hP6
  have HM6 := Lib.hid hM6
  clear HRD HKk HZk HPk HMv HOw hB6 hZ6 hT6 hP6 hM6 hb6
  go_wp2_with fail
  refine bodyPost_ret (v := .agg #[.int .i64 7, .string ⟨nm.toArray⟩, .int .i64 0, .slice (some ⟨kg, 0, none⟩) kids.length kq, .slice none 0 0, .int .i64 t.at_]) (by simp [results, Tryz.results178, go_sem, ndA, z0, z1, z2, z3, z4, z5]) rfl ?_
  refine ⟨_, ⟨_, _, rfl, (HT6.out.kp (kp_set6 ?_)).mono (fun j hj _ => ?_), rd_none _ _⟩, rfl, pr_far6 HP6.out (by omega) (by omega), mv_set6 HM6.out (by omega)⟩
  · intro hj
    rcases hj with hj | hj
    · exact hj.2.2 rfl
    have hj : some kg = some (w.heap.size + 1) := hj
    cases hj
    omega
  rcases hj with hj | hj
  · exact hj.1
  have hj : some kg = some j := hj
  cases hj
  right
  unfold New
  omega
 | true =>
  obtain ⟨hk2, g', rfl, hRR⟩ := HRD.out.2 (by first | rfl | trivial)
  have HBI := fun (w' : World) (hp : Pr b L tb tc bad (k + 1) d w') => (HALL.out g' (by omega)).bin hp hk2 hd (by omega)
  have hres := (PB.all (bad := bad) HL.out g').bin d (k + 1) hk2
  obtain ⟨E, hE⟩ : ∃ E, binP L bad g' d (k + 1) = E := ⟨_, rfl⟩
  rw [hE] at HBI hRR hres
  replace HBI := Lib.hid HBI
  have HRR := Lib.hid hRR
  have hP6 := HPk.out.bel hb6
  have hM6 := HMv.out.trans (Mv.of_bel hb6)
  have hK6 := HKk.out.below hb6 (by omega)
  have hZ6 := HZk.out.below hb6 (by omega)
  have hO6 := HOw.out.bel hb6
  have HNX6 := Lib.hid (HNX.out w6.drew hP6.drew)
  have HM6 := Lib.hid hM6
  have HK6 := Lib.hid hK6
  have HZ6 := Lib.hid hZ6
  have HO6 := Lib.hid hO6
  clear HRD hE hRR hP6 hM6 hK6 hZ6 hO6 HKk HZk HPk HMv HOw hb6 HNX
  have F1 := fld1
  go_wp2_with fail
  have hS : ∀ v, Blk NDT K5 #[.int .i64 7, .string ⟨nm.toArray⟩, .int .i64 0, .slice (some ⟨kg, 0, none⟩) kids.length kq, .slice none 0 0, .int .i64 t.at_] v → v.cell? ⟨K5, 1, none⟩ = some (.string ⟨nm.toArray⟩) := fun v hv => hv.c 1 _ rfl
  refine region_pk (fun c a a' w h hq => (show a.defers = [] ∧ _ from ⟨h ▸ (show a'.defers = [] ∧ _ from hq).1, (show a'.defers = [] ∧ _ from hq).2⟩)) (fun HPQ => ?_)
  refine Hd.start (fun v => v.cell? ⟨K5, 1, none⟩ = some (.string ⟨nm.toArray⟩)) (by kernel_rfl) (hS _ (HK6.out.drewN 1)) (fun hH0 => ?_)
  refine Hd.tk 0 1 hH0 ?_ (hQ := fun c a w h => HPQ c _ _ w (put_defers a _ _) h)
  refine Hd.tk 1 5 hH0 ?_ (hQ := fun c a w h => HPQ c _ _ w (put_defers a _ _) h)
  refine Hd.tk 2 3 hH0 ?_ (hQ := fun c a w h => HPQ c _ _ w (put_defers a _ _) h)
  refine Hd.on 3 (fun K hK => ?_)
  go_simp
  refine HNX6.out.mono ?_; rintro e w7 ⟨rfl, hP7, hm7⟩
  have hs7 : w6.heap.size ≤ w7.heap.size := hm7.size
  have hK7 : Blk NDT K5 #[.int .i64 7, .string ⟨nm.toArray⟩, .int .i64 0, .slice (some ⟨kg, 0, none⟩) kids.length kq, .slice none 0 0, .int .i64 t.at_] w7 := (hm7.block _ (show K5 < w6.heap.size by omega) (by omega)).trans HK6.out
  have hZ7 : Blk NDT (w.heap.size + 1) z6 w7 := (hm7.block _ (show w.heap.size + 1 < w6.heap.size by omega) (by omega)).trans HZ6.out
  have hO7 := ownT_mv (w := w6.drew) (HO6.out.kp (Nat.le_refl _) (fun _ _ _ => rfl)) hm7 (by omega) hSB.out
  have hM7 := (HM6.out.drew).trans hm7
  have HK7 := Lib.hid hK7
  have HZ7 := Lib.hid hZ7
  have HO7 := Lib.hid hO7
  have HM7 := Lib.hid hM7
  have HP7 := Lib.hid hP7
  clear hP7 hm7 hK7 hZ7 hO7 hM7 HK6 HZ6 HO6 HM6 HNX6
  unfold ptV
  go_simp
  refine hK.out _ _ (hS _ HK7.out) (fun hH1 => ?_)
  clear hK K
  try simp only [Act.put, Hd.sa, Hd.sz, Hd.ss]
  refine Hd.tk 4 5 hH1 ?_ (hQ := fun c a w h => HPQ c _ _ w (put_defers a _ _) h)
  refine Hd.take 5 7 (oi := ?_) (v := ?_) ?_ (by kernel_rfl) (fun c a w h => HPQ c _ _ w (put_defers a _ _) h) hH1 ?_ ?_ ?_
  rotate_left 2
  · simp only [Hd.ga, Hd.gs, Hd.gz]
    exact rfl
  · rfl
  · intro w hSw
    (try dsimp only at hSw)
    go_simp
    rw [if_neg (by (try simp only [List.length_append, List.length_cons, List.length_nil]); omega)]
  try simp only [Act.put, Hd.sa, Hd.sz, Hd.ss]
  refine Hd.tk 6 7 hH1 ?_ (hQ := fun c a w h => HPQ c _ _ w (put_defers a _ _) h)
  have e1 := HK7.out.c 1 _ rfl
  have ef := HK7.out.fz
  refine Hd.la 7 (fun K hK => ?_)
  go_simp
  refine hK.out _ _ ?_
  clear hK K
  try simp only [Act.put, Hd.sa, Hd.sz, Hd.ss]
  obtain ⟨W8, hW8⟩ : ∃ W, w7.setCell ⟨K5, 1, none⟩ (.string ⟨(nm ++ u.word).toArray⟩) = W := ⟨_, rfl⟩
  have hcat : w7.setCell ⟨K5, 1, none⟩ (.string (⟨nm.toArray⟩ ++ ⟨u.word.toArray⟩)) = W8 := by rw [← hW8]; congr 2
  rw [hcat]
  have hP8 : Pr b L tb tc bad (k + 1) d W8 := by rw [← hW8]; exact HP7.out.far (show b ≠ K5 by omega) (show tb ≠ K5 by omega) _
  have hM8 : Mv b w W8 := by rw [← hW8]; exact HM7.out.new (show w.heap.size ≤ K5 by omega) _
  have hK8 : Blk NDT K5 #[.int .i64 7, .string ⟨(nm ++ u.word).toArray⟩, .int .i64 0, .slice (some ⟨kg, 0, none⟩) kids.length kq, .slice none 0 0, .int .i64 t.at_] W8 := by rw [← hW8]; exact HK7.out.set_ 1 _ _ rfl
  have hZ8 : Blk NDT (w.heap.size + 1) z6 W8 := by rw [← hW8]; exact HZ7.out.far (show w.heap.size + 1 ≠ K5 by omega) _
  have hkl3 := HOL.out kg rfl
  have hO8 : OwnT NDT W2.heap.size (fun j => (S j ∨ New w j) ∧ j ≠ K5 ∧ j ≠ w.heap.size + 1) W8 (.slice (some ⟨kg, 0, none⟩) kids.length kq) kids := by rw [← hW8]; exact ownT_set HO7.out (fun h => by have h : some kg = some K5 := h; cases h; omega) (by simp) _
  have hs8 : W8.heap.size = w7.heap.size := by rw [← hW8]; simp [World.setCell]
  have HP8 := Lib.hid hP8
  have HM8 := Lib.hid hM8
  have HK8 := Lib.hid hK8
  have HZ8 := Lib.hid hZ8
  have HO8 := Lib.hid hO8
  clear hP8 hM8 hK8 hZ8 hO8 hW8 hcat HP7 HM7 HK7 HZ7 HO7 e1 ef
  go_wp2_with fail
  refine (HBI.out W8 HP8.out).mono ?_; intro e w9 ht9
  cases E with
  | error z =>
   obtain ⟨rfl, hm⟩ := ht9
   have hR := HRR.out
   simp only [bind, Except.bind] at hR
   subst hR
   go_wp2_with fail
   exact ⟨rfl, rfl, HM8.out.trans hm⟩
  | ok z =>
   obtain ⟨y, s2, k2⟩ := z
   have hR := HRR.out
   simp only [bind, Except.bind] at hR
   replace HRR := Lib.hid hR
   clear hR
   obtain ⟨v, hv, rfl, hP9, hm9⟩ := ht9
   obtain ⟨la, lc, ma, mc, rfl, hTy, hNy⟩ := hv.form
   obtain ⟨q1, q2, -, -⟩ := hres
   simp only at q1 q2
   have hs9 := hm9.size
   have hK9 : Blk NDT K5 #[.int .i64 7, .string ⟨(nm ++ u.word).toArray⟩, .int .i64 0, .slice (some ⟨kg, 0, none⟩) kids.length kq, .slice none 0 0, .int .i64 t.at_] w9 := (hm9.block _ (by omega) (by omega)).trans HK8.out
   have hZ9 : Blk NDT (w.heap.size + 1) z6 w9 := (hm9.block _ (by omega) (by omega)).trans HZ8.out
   have hO9 := ownT_mv HO8.out hm9 (by omega) hSB.out
   have hM9 := HM8.out.trans hm9
   have hTy1 := hTy.mono (S' := fun j => (fun j => (S j ∨ New w j) ∧ j ≠ K5 ∧ j ≠ w.heap.size + 1) j ∧ (Value.slice (some ⟨kg, 0, none⟩) kids.length kq).ownBlock ≠ some j) (fun j hj hl => by
    have hj : W8.heap.size ≤ j := hj
    refine ⟨⟨.inr (by unfold New; omega), by omega, by omega⟩, fun h => ?_⟩
    have h : some kg = some j := h
    cases h
    omega)
   have hNy1 := hNy.mono (S' := fun j => (fun j => (S j ∨ New w j) ∧ j ≠ K5 ∧ j ≠ w.heap.size + 1) j ∧ (Value.slice (some ⟨kg, 0, none⟩) kids.length kq).ownBlock ≠ some j) (fun j hj hl => by
    have hj : W8.heap.size ≤ j := hj
    refine ⟨⟨.inr (by unfold New; omega), by omega, by omega⟩, fun h => ?_⟩
    have h : some kg = some j := h
    cases h
    omega)
   have hbbC := alloc_bel w9 (.cells #[.int .i64 y.kind, .string ⟨y.name.toArray⟩, .int .i64 y.num, .slice la y.kids.length lc, .slice ma y.names.length mc, .int .i64 y.at_] NDT)
   have hMkC := Blk.made (T := NDT) (cs := #[.int .i64 y.kind, .string ⟨y.name.toArray⟩, .int .i64 y.num, .slice la y.kids.length lc, .slice ma y.names.length mc, .int .i64 y.at_]) w9
   have hszC : (w9.alloc (.cells #[.int .i64 y.kind, .string ⟨y.name.toArray⟩, .int .i64 y.num, .slice la y.kids.length lc, .slice ma y.names.length mc, .int .i64 y.at_] NDT)).heap.size = w9.heap.size + 1 := by simp
   have hP10 := hP9.bel hbbC
   have hM10 := hM9.alloc (.cells #[.int .i64 y.kind, .string ⟨y.name.toArray⟩, .int .i64 y.num, .slice la y.kids.length lc, .slice ma y.names.length mc, .int .i64 y.at_] NDT)
   have hK10 := hK9.alloc (.cells #[.int .i64 y.kind, .string ⟨y.name.toArray⟩, .int .i64 y.num, .slice la y.kids.length lc, .slice ma y.names.length mc, .int .i64 y.at_] NDT)
   have hZ10 := hZ9.alloc (.cells #[.int .i64 y.kind, .string ⟨y.name.toArray⟩, .int .i64 y.num, .slice la y.kids.length lc, .slice ma y.names.length mc, .int .i64 y.at_] NDT)
   have hO10 := hO9.bel hbbC
   have hT10 := hTy1.bel hbbC
   have hN10 := hNy1.below hbbC
   obtain ⟨W10, halC⟩ : ∃ W, w9.alloc (.cells #[.int .i64 y.kind, .string ⟨y.name.toArray⟩, .int .i64 y.num, .slice la y.kids.length lc, .slice ma y.names.length mc, .int .i64 y.at_] NDT) = W := ⟨_, rfl⟩
   rw [halC] at hMkC hszC hP10 hM10 hK10 hZ10 hO10 hT10 hN10
   clear hbbC
   have e0 := hK10.c 0 _ rfl
   have e1 := hK10.c 1 _ rfl
   have e2 := hK10.c 2 _ rfl
   have e3 := hK10.c 3 _ rfl
   have e4 := hK10.c 4 _ rfl
   have e5 := hK10.c 5 _ rfl
   have f0 := hMkC.c 0 _ rfl
   have f1 := hMkC.c 1 _ rfl
   have f2 := hMkC.c 2 _ rfl
   have f3 := hMkC.c 3 _ rfl
   have f4 := hMkC.c 4 _ rfl
   have f5 := hMkC.c 5 _ rfl
   have hbbD := alloc_bel W10 (.cells #[.int .i64 y.kind, .string ⟨y.name.toArray⟩, .int .i64 y.num, .slice la y.kids.length lc, .slice ma y.names.length mc, .int .i64 y.at_] NDT)
   have hMkD := Blk.made (T := NDT) (cs := #[.int .i64 y.kind, .string ⟨y.name.toArray⟩, .int .i64 y.num, .slice la y.kids.length lc, .slice ma y.names.length mc, .int .i64 y.at_]) W10
   have hszD : (W10.alloc (.cells #[.int .i64 y.kind, .string ⟨y.name.toArray⟩, .int .i64 y.num, .slice la y.kids.length lc, .slice ma y.names.length mc, .int .i64 y.at_] NDT)).heap.size = W10.heap.size + 1 := by simp
   have hP11 := hP10.bel hbbD
   have hM11 := hM10.alloc (.cells #[.int .i64 y.kind, .string ⟨y.name.toArray⟩, .int .i64 y.num, .slice la y.kids.length lc, .slice ma y.names.length mc, .int .i64 y.at_] NDT)
   have hK11 := hK10.alloc (.cells #[.int .i64 y.kind, .string ⟨y.name.toArray⟩, .int .i64 y.num, .slice la y.kids.length lc, .slice ma y.names.length mc, .int .i64 y.at_] NDT)
   have hZ11 := hZ10.alloc (.cells #[.int .i64 y.kind, .string ⟨y.name.toArray⟩, .int .i64 y.num, .slice la y.kids.length lc, .slice ma y.names.length mc, .int .i64 y.at_] NDT)
   have hO11 := hO10.bel hbbD
   have hT11 := hT10.bel hbbD
   have hN11 := hN10.below hbbD
   obtain ⟨W11, halD⟩ : ∃ W, W10.alloc (.cells #[.int .i64 y.kind, .string ⟨y.name.toArray⟩, .int .i64 y.num, .slice la y.kids.length lc, .slice ma y.names.length mc, .int .i64 y.at_] NDT) = W := ⟨_, rfl⟩
   rw [halD] at hMkD hszD hP11 hM11 hK11 hZ11 hO11 hT11 hN11
   clear hbbD
   obtain ⟨vl, hvl, hrow, hsub⟩ := hO11
   have hvll : vl.length = kids.length := by have := congrArg List.length hvl; rwa [List.length_map] at this
   have hnews := World.news_of_block hMkD
   rw [hvll] at hrow
   rw [hszC] at hnews
   have hms11 := hM11.size
   have HP11 := Lib.hid hP11
   have HM11 := Lib.hid hM11
   have HK11 := Lib.hid hK11
   have HZ11 := Lib.hid hZ11
   have HT11 := Lib.hid hT11
   have HN11 := Lib.hid hN11
   have HROW := Lib.hid hrow
   have HSUB := Lib.hid hsub
   have HVL := Lib.hid hvl
   have HVLL := Lib.hid hvll
   have HNEWS := Lib.hid hnews
   clear hv hP9 hm9 hTy hNy hK9 hZ9 hO9 hM9 hTy1 hNy1 hP10 hM10 hK10 hZ10 hO10 hT10 hN10 hP11 hM11 hK11 hZ11 hT11 hN11 hrow hsub hvl hvll hnews hMkC hMkD HP8 HM8 HK8 HZ8 HO8
   unfold ndA
   go_wp2_with (at_builtin; refine wpList_append_lies _ rfl _ _ 31 rfl W2.heap.size NDT i0 (.agg #[.int .i64 0, .string ⟨#[]⟩, .int .i64 0, .slice none 0 0, .slice none 0 0, .int .i64 0]) 6 88 tsl hi0 hz0 hz1 hz2 rfl (by decide) _ kids.length (flatN vl) rfl HROW.out ⟨w9.heap.size + 1, 0, none⟩ 1 1 [.int .i64 y.kind, .string ⟨y.name.toArray⟩, .int .i64 y.num, .slice la y.kids.length lc, .slice ma y.names.length mc, .int .i64 y.at_] rfl rfl HNEWS.out (fun u hu => by simp at hu; rcases hu with rfl | rfl | rfl | rfl | rfl | rfl <;> rfl) (by decide) (by unfold maxLen; omega) (by omega) (by omega) _ rfl ?_)
   intro gb cap w12 hown12 hgrow12 hat12 hlt12
   have e22 : w.heap.size + 1 + 1 = W2.heap.size := by omega
   try rw [e22] at hown12
   have hat12 : (Value.slice (some ⟨kg, 0, none⟩) kids.length kq).ownBlock = some gb ∨ gb = W11.heap.size := by rw [hszD, hszC]; exact hat12
   have hsn := own_snoc (n := kids.length) (S := (fun j => (S j ∨ New w j) ∧ j ≠ K5 ∧ j ≠ w.heap.size + 1)) (x := y) (kv := .slice la y.kids.length lc) (nv := .slice ma y.names.length mc) HVLL.out.symm hgrow12.size HSUB.out HT11.out HN11.out hown12 hgrow12 hat12
   rw [HVL.out] at hsn
   have hob : ∀ j, (Value.slice (some ⟨kg, 0, none⟩) kids.length kq).ownBlock = some j → kg = j := fun j hj => by
    have hj : some kg = some j := hj
    cases hj; rfl
   have hs12 := hgrow12.size
   have hgb : gb ≠ K5 ∧ W2.heap.size ≤ gb := by
    rcases hat12 with h | h
    · have := hob gb h; omega
    omega
   have hP12 := HP11.out.grown hgrow12 (fun h => by have := hob _ h; omega) (fun h => by have := hob _ h; omega)
   have hM12 := Mv.grown HM11.out hgrow12 (fun j h => by have := hob _ h; omega)
   have hK12 : Blk NDT K5 #[.int .i64 7, .string ⟨(nm ++ u.word).toArray⟩, .int .i64 0, .slice (some ⟨kg, 0, none⟩) kids.length kq, .slice none 0 0, .int .i64 t.at_] w12 := (hgrow12.block _ (by omega) (fun h => by have := hob _ h.symm; omega)).trans HK11.out
   have hZ12 : Blk NDT (w.heap.size + 1) z6 w12 := (hgrow12.block _ (by omega) (fun h => by have := hob _ h.symm; omega)).trans HZ11.out
   clear e0 e1 e2 e3 e4 e5 f0 f1 f2 f3 f4 f5
   have e3 := hK12.c 3 _ rfl
   have ef := hK12.fz
   have HSN := Lib.hid hsn
   have HP12 := Lib.hid hP12
   have HM12 := Lib.hid hM12
   have HK12 := Lib.hid hK12
   have HZ12 := Lib.hid hZ12
   clear hown12 hgrow12 hat12 hsn hP12 hM12 hK12 hZ12 HROW HSUB HT11 HN11 HP11 HM11 HK11 HZ11 HNEWS halC halD
   go_wp2_with fail
   have hlo : (kids ++ [y]).length = kids.length + 1 := by simp
   have hPf := HP12.out.far (p := ⟨K5, 3, none⟩) (show b ≠ K5 by omega) (show tb ≠ K5 by omega) (.slice (some ⟨gb, 0, none⟩) (kids.length + 1) cap)
   refine ⟨⟨k2, g', nm ++ u.word, kids ++ [y], gb, cap, q2, by rw [hlo]; omega, by rw [hlo]; omega, by rw [List.length_append]; omega, by omega, by omega, HRR, Lib.hid (by rw [hlo]; exact ownT_set HSN.out (fun h => by have h : some gb = some K5 := h; cases h; omega) (by simp) _), hgb.1, Lib.hid (by rw [hlo]; exact HK12.out.set_ 3 _ _ rfl), Lib.hid (HZ12.out.far (show w.heap.size + 1 ≠ K5 by omega) _), Lib.hid hPf, Lib.hid (HM12.out.new (p := ⟨K5, 3, none⟩) (show w.heap.size ≤ K5 by omega) _), by simp [World.setCell]; omega⟩, ?_⟩
   rw [hPf.at_]; omega
end
end Pa
end Go.Proofs.YtmmgfifpjifjnaaGreatDoor
namespace Go.Proofs.YtmmgfifpjifjnaaGreatDoor
open Go.RowKit
namespace Pa
open Bs Sm Tr
open Lx (Mv)
section
variable {L : List Pt} {bad : Int}
theorem PA.zero : PA L bad 0 where
 expr _ _ _ hf := by omega
 casc _ _ _ hf := by omega
 kws _ _ _ _ _ hf := by omega
 kwd _ _ _ hf := by omega
 bin _ _ _ hf := by omega
 un _ _ _ hf := by omega
 prim _ _ _ hf := by omega
 block _ _ _ _ hf := by omega
 stmts _ _ _ _ hf := by omega
 stmt _ _ _ hf := by omega
theorem PA.succ {f : Nat} (hL : LOk L) (hall : ∀ g, g ≤ f → PA L bad g) : PA L bad (f + 1) where
 expr hP ha hd hf := expr_step hL (hall f (Nat.le_refl _)) hP ha hd hf
 casc hP ha hd hf := casc_step hL hall hP ha hd hf
 kws hP ha hd hv hS hf := kws_step hL hall hP ha hd hv hS hf
 kwd hP ha hd hf := kwd_step hL (hall f (Nat.le_refl _)) hP ha hd hf
 bin hP ha hd hf := bin_step hL hall hP ha hd hf
 un hP ha hd hf := un_step hL (hall f (Nat.le_refl _)) hP ha hd hf
 prim hP ha hd hf := prim_step hL (hall f (Nat.le_refl _)) hP ha hd hf
 block hP ha hd hk hf := block_step hL (hall f (Nat.le_refl _)) hP ha hd hk hf
 stmts hP ha hd he hf := stmts_step hL hall hP ha hd he hf
 stmt hP ha hd hf := stmt_step hL (hall f (Nat.le_refl _)) hP ha hd hf
theorem PA.upto (hL : LOk L) : ∀ f g, g ≤ f → PA L bad g
 | 0, g, h => (Nat.le_zero.1 h) ▸ PA.zero
 | f + 1, g, h => by
  by_cases hg : g ≤ f
  · exact PA.upto hL f g hg
  obtain rfl : g = f + 1 := by omega
  exact PA.succ hL (fun g hg => PA.upto hL f g hg)
theorem PA.all (hL : LOk L) (f : Nat) : PA L bad f := PA.upto hL f f (Nat.le_refl _)
end
end Pa
end Go.Proofs.YtmmgfifpjifjnaaGreatDoor
