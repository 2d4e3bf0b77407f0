/- The reference's fits, Depth, All (printed by gen_trr4.py, hdx.py). -/
import Derived.Test.YtfbhokdcnjekiaaGreatDoorTrR3a
import Derived.Test.YtfbhokdcnjekiaaGreatDoorTrR3b
import Derived.Test.YtfbhokdcnjekiaaGreatDoorTrR3c
import Derived.Test.YtfbhokdcnjekiaaGreatDoorTrCut
import Derived.Laws.AppendOwnNone
set_option linter.unusedVariables false
namespace Go.Proofs.YtfbhokdcnjekiaaGreatDoor
open Go.RowKit
namespace Tr
open Bs Sm
theorem rone_any (x : Nd) (kv nv : Value) (w : World) (hk : Tree (fun _ => True) w kv x.kids) (hn : Rd (fun _ => True) strV w nv x.names) : Calls Tryz.prog 75 #[ndV x kv nv] w (Back (.bool (oneB x)) w) := by
 by_cases h : x.kind < 1 ∨ 11 < x.kind
 · exact rone_X h hk hn
 · obtain h1 | h1 | h1 | h1 | h1 | h1 | h1 | h1 | h1 | h1 | h1 : x.kind = 1 ∨ x.kind = 2 ∨ x.kind = 3 ∨ x.kind = 4 ∨ x.kind = 5 ∨ x.kind = 6 ∨ x.kind = 7 ∨ x.kind = 8 ∨ x.kind = 9 ∨ x.kind = 10 ∨ x.kind = 11 := by omega
   · exact rone_1 h1 hk hn
   · exact rone_2 h1 hk hn
   · exact rone_3 h1 hk hn
   · exact rone_4 h1 hk hn
   · exact rone_5 h1 hk hn
   · exact rone_6 h1 hk hn
   · exact rone_7 h1 hk hn
   · exact rone_8 h1 hk hn
   · exact rone_9 h1 hk hn
   · exact rone_10 h1 hk hn
   · exact rone_11 h1 hk hn
def RFitsK (l : List Nd) : Prop := ∀ y ∈ l, ∀ may w kv nv, Tree (fun _ => True) w kv y.kids → Rd (fun _ => True) strV w nv y.names → Calls Tryz.prog 37 #[ndV y kv nv, .bool may] w (Back (.bool (fitsB y may)) w)
set_option maxRecDepth 100000 in
set_option maxHeartbeats 3200000 in
theorem rfits_step (x : Nd) (IH : RFitsK x.kids) (may : Bool) (w : World) (kv nv : Value) (hk : Tree (fun _ => True) w kv x.kids) (hn : Rd (fun _ => True) strV w nv x.names) :
  Calls Tryz.prog 37 #[ndV x kv nv, .bool may] w (Back (.bool (fitsB x may)) w) := by
 obtain ⟨ka, kc, rfl, hc, hm⟩ := hk.form
 obtain ⟨na, nc, rfl, -, -⟩ := hn.form
 unfold maxLen at hm
 have Hb1 := Lib.hid (alloc_bel w (.cells #[.int .i64 x.kind, .string ⟨x.name.toArray⟩, .int .i64 x.num, .slice ka x.kids.length kc, .slice na x.names.length nc, .int .i64 x.at_] 45))
 have hB1 := Blk.made (T := 45) (cs := #[.int .i64 x.kind, .string ⟨x.name.toArray⟩, .int .i64 x.num, .slice ka x.kids.length kc, .slice na x.names.length nc, .int .i64 x.at_]) w
 have HS := fun (w' : World) (h : Below w.heap.size w w') => rone_any x _ _ w' (hk.bel h) (hn.below h)
 have HO := fun (w' : World) (h : Below w.heap.size w w') => rholed_any (nv := .slice na x.names.length nc) (hk.bel h)
 have HT := fun (w' : World) (h : Below w.heap.size w w') => hk.bel h
 unfold fitsB
 unfold oneB at HS
 obtain ⟨q1, hq1⟩ : ∃ q, (shapeB x && kidsB x) = q := ⟨_, rfl⟩
 obtain ⟨q3, hq3⟩ : ∃ q, holed x = q := ⟨_, rfl⟩
 obtain ⟨l, hl⟩ : ∃ l, x.kids = l := ⟨_, rfl⟩
 obtain ⟨n, hln⟩ : ∃ n, l.length = n := ⟨_, rfl⟩
 obtain ⟨K, hK⟩ : ∃ n, x.kind = n := ⟨_, rfl⟩
 have HLN := Lib.hid hln
 unfold ndV at HS HO ⊢
 rw [hq1] at HS ⊢
 rw [hq3] at HO ⊢
 rw [hl] at HS HO HT IH hB1 Hb1 hc ⊢
 rw [hln] at HS HO HT hB1 Hb1 hc ⊢
 rw [hK] at HS HO hB1 Hb1 ⊢
 obtain ⟨Q, hQ⟩ : ∃ Q, (q1 && !(q3 && !may) && fitsK false (K == 8) l) = Q := ⟨_, rfl⟩
 rw [hQ]
 have HQ := Lib.hid hQ
 replace HS := Lib.hid HS
 replace HO := Lib.hid HO
 replace HT := Lib.hid HT
 replace IH := Lib.hid IH
 have HB1 := Lib.hid hB1
 have hlt := hB1.lt
 clear hk hn hl hln hK hB1 hq1 hq3 hQ
 go_enter Tryz.func37, Tryz.ntmps37
 go_wp2_with fail
 refine (HS.out _ Hb1.out).mono ?_; rintro e w1 ⟨rfl, hb1⟩
 have hk1 := HB1.out.below hb1 hlt
 have c0 := hk1.c 0 _ rfl
 have c1 := hk1.c 1 _ rfl
 have c2 := hk1.c 2 _ rfl
 have c3 := hk1.c 3 _ rfl
 have c4 := hk1.c 4 _ rfl
 have c5 := hk1.c 5 _ rfl
 have hbw1 := Hb1.out.trans (hb1.mono Hb1.out.size)
 have Hw1 := Lib.hid hbw1
 have HK1 := Lib.hid hk1
 have hlt1 := hk1.lt
 clear hb1 hbw1 hk1
 cases q1 with
 | false =>
  go_wp2_with fail
  go_ret
  exact ⟨by rw [← HQ.out]; simp, Hw1.out⟩
 | true =>
  go_wp2_with fail
  refine (HO.out _ Hw1.out).mono ?_; rintro e w3 ⟨rfl, hb3⟩
  have hk3 := HK1.out.below hb3 hlt1
  have e3 := hk3.c 3 _ rfl
  have Hw3 := Lib.hid (Hw1.out.trans (hb3.mono Hw1.out.size))
  have HK3 := Lib.hid hk3
  have hlt3 := hk3.lt
  clear hb3 hk3 c0 c1 c2 c3 c4 c5 Hw1 HK1 hlt1
  obtain ⟨r, hr⟩ : ∃ r, (q3 && !may) = r := ⟨_, rfl⟩
  cases r with
  | true =>
   have h3 : q3 = true := by cases q3 <;> simp_all
   have h4 : may = false := by cases may <;> simp_all
   subst h3 h4
   go_wp2_with fail
   go_ret
   exact ⟨by rw [← HQ.out]; simp, Hw3.out⟩
  | false =>
   have HR : Hid (Q = fitsK false (K == 8) l) := Lib.hid (by rw [← HQ.out, hr]; simp)
   obtain ⟨F, hF0, hFS, hFn⟩ : ∃ F : Nat → Bool, Q = F 0 ∧ (∀ k y, l[k]? = some y → F k = (fitsB y ((K == 8) && decide (0 < k)) && F (k + 1))) ∧ F n = true :=
    ⟨fun k => fitsK ((K == 8) && decide (0 < k)) (K == 8) (l.drop k), by rw [HR.out]; show _ = fitsK _ _ (l.drop 0); rw [List.drop_zero]; simp, fun k y hy => fits_drop (K == 8) l k y hy, by
     show fitsK _ _ (l.drop n) = true
     rw [List.drop_eq_nil_of_le (by rw [HLN.out]; exact Nat.le_refl _), fitsK_nil]⟩
   have HF0 := Lib.hid hF0
   have HFS := Lib.hid hFS
   have HFn := Lib.hid hFn
   have hgo : q3 = false ∨ (q3 = true ∧ may = true) := by cases q3 <;> cases may <;> simp_all
   clear hr HQ HR hF0 hFS hFn
   rcases hgo with h | ⟨h, h2⟩
   all_goals (
    subst h
    try subst h2
    go_wp2_with fail
    go_loopw [5] (fun y wr => ∃ k : Nat, y = .int .i64 (k : Int) ∧ k ≤ n ∧ Below w3.heap.size w3 wr ∧ Hid (Q = F k)) (fun y _ => n - (intOf y).toNat)
    case atStart => exact ⟨0, rfl, Nat.zero_le _, Below.refl _ _, HF0⟩
    case round =>
     obtain ⟨k, rfl, hk, hbr, hp⟩ := hrel
     have HBR := Lib.hid (HK3.out.below hbr hlt3)
     have f3 := HBR.out.c 3 _ rfl
     by_cases hkn : k < n
     · have hdec : decide ((k : Int) < (n : Int)) = true := by simpa using hkn
       have hkw : IntKind.i64.wrap ((k : Int) + 1) = (k : Int) + 1 := IntWalk.i64_in _ (by omega)
       obtain ⟨gb, off, y, ya, yc, za, zc, rfl, hy, hgb, -, hrow, hkt, hnt⟩ := (HT.out wr (Hw3.out.trans (hbr.mono Hw3.out.size))).nth k hkn
       have hfd := HFS.out k y hy
       have HROW := Lib.hid hrow
       have HC := Lib.hid (IH.out y (List.mem_of_getElem? hy) ((K == 8) && decide (0 < k)) wr.drew _ _ (hkt.bel (Below.refl _ wr).drew) (hnt.below (Below.refl _ wr).drew))
       unfold ndV at HC
       obtain ⟨z, hz⟩ : ∃ z, fitsB y ((K == 8) && decide (0 < k)) = z := ⟨_, rfl⟩
       rw [hz] at HC hfd
       have HF := Lib.hid (hp.out.trans hfd)
       clear hy hkt hnt hfd hz hp hrow
       by_cases h8 : K = 8
       · subst h8
         go_upto_region 6 with fail
         have hS : ∀ v, Below wr.heap.size wr v → (v.cell? ⟨w.heap.size, 0, none⟩ = some (.int .i64 8) ∧ v.cell? ⟨w.heap.size, 3, none⟩ = some (.slice (some ⟨gb, off, none⟩) n kc) ∧ (v.cell? ⟨gb, off + k * 6, none⟩ = some (.int .i64 y.kind) ∧ v.cell? ⟨gb, off + k * 6 + 1, none⟩ = some (.string ⟨y.name.toArray⟩) ∧ v.cell? ⟨gb, off + k * 6 + 2, none⟩ = some (.int .i64 y.num) ∧ v.cell? ⟨gb, off + k * 6 + 3, none⟩ = some (.slice ya y.kids.length yc) ∧ v.cell? ⟨gb, off + k * 6 + 4, none⟩ = some (.slice za y.names.length zc) ∧ v.cell? ⟨gb, off + k * 6 + 5, none⟩ = some (.int .i64 y.at_))) := fun v hv => by
          have hbk := HBR.out.below hv HBR.out.lt
          exact ⟨hbk.c 0 _ rfl, hbk.c 3 _ rfl, HROW.out.kp (w' := v) (fun i => hv.cell (p := ⟨gb, i, none⟩) hgb)⟩
         refine wp_region_noPanic ?_
         refine Hd.start (fun v => v.cell? ⟨w.heap.size, 0, none⟩ = some (.int .i64 8) ∧ v.cell? ⟨w.heap.size, 3, none⟩ = some (.slice (some ⟨gb, off, none⟩) n kc) ∧ (v.cell? ⟨gb, off + k * 6, none⟩ = some (.int .i64 y.kind) ∧ v.cell? ⟨gb, off + k * 6 + 1, none⟩ = some (.string ⟨y.name.toArray⟩) ∧ v.cell? ⟨gb, off + k * 6 + 2, none⟩ = some (.int .i64 y.num) ∧ v.cell? ⟨gb, off + k * 6 + 3, none⟩ = some (.slice ya y.kids.length yc) ∧ v.cell? ⟨gb, off + k * 6 + 4, none⟩ = some (.slice za y.names.length zc) ∧ v.cell? ⟨gb, off + k * 6 + 5, none⟩ = some (.int .i64 y.at_))) (by kernel_rfl) (hS _ (Below.refl _ wr).drew) (fun hH0 => ?_)
         refine Hd.take 0 1 (oi := ?_) (v := ?_) ?_ (by kernel_rfl) (fun _ _ _ h => h) hH0 ?_ ?_ ?_
         rotate_left 2
         · simp only [Hd.ga, Hd.gz]
           exact rfl
         · rfl
         · intro w hSw
           (try dsimp only at hSw)
           go_simp
           try with_reducible rfl
         try simp only [Act.put, Hd.sa, Hd.sz, Hd.ss]
         refine Hd.take 1 3 (oi := ?_) (v := ?_) ?_ (by kernel_rfl) (fun _ _ _ h => h) hH0 ?_ ?_ ?_
         rotate_left 2
         · simp only [Hd.ga, Hd.gs, Hd.gz]
           exact rfl
         · rfl
         · intro w hSw
           (try dsimp only at hSw)
           go_simp
           try with_reducible rfl
         try simp only [Act.put, Hd.sa, Hd.sz, Hd.ss]
         refine Hd.take 2 3 (oi := ?_) (v := ?_) ?_ (by kernel_rfl) (fun _ _ _ h => h) hH0 ?_ ?_ ?_
         rotate_left 2
         · simp only [Hd.ga, Hd.gs, Hd.gz]
           exact rfl
         · rfl
         · intro w hSw
           (try dsimp only at hSw)
           go_simp
           try with_reducible rfl
         try simp only [Act.put, Hd.sa, Hd.sz, Hd.ss]
         refine Hd.take 3 4 (oi := ?_) (v := ?_) ?_ (by kernel_rfl) (fun _ _ _ h => h) hH0 ?_ ?_ ?_
         rotate_left 2
         · simp only [Hd.ga, Hd.gs, Hd.gz]
           exact rfl
         · rfl
         · intro w hSw
           (try dsimp only at hSw)
           go_simp
           try with_reducible rfl
         try simp only [Act.put, Hd.sa, Hd.sz, Hd.ss]
         refine Hd.take 4 12 (oi := ?_) (v := ?_) ?_ (by kernel_rfl) (fun _ _ _ h => h) hH0 ?_ ?_ ?_
         rotate_left 2
         · simp only [Hd.ga, Hd.gs, Hd.gz]
           exact rfl
         · rfl
         · intro w hSw
           (try dsimp only at hSw)
           go_simp
           try with_reducible rfl
         try simp only [Act.put, Hd.sa, Hd.sz, Hd.ss]
         refine Hd.take 5 6 (oi := ?_) (v := ?_) ?_ (by kernel_rfl) (fun _ _ _ h => h) hH0 ?_ ?_ ?_
         rotate_left 2
         · simp only [Hd.ga, Hd.gs, Hd.gz]
           exact rfl
         · rfl
         · intro w hSw
           (try dsimp only at hSw)
           go_simp
           try with_reducible rfl
         try simp only [Act.put, Hd.sa, Hd.sz, Hd.ss]
         refine Hd.take 6 7 (oi := ?_) (v := ?_) ?_ (by kernel_rfl) (fun _ _ _ h => h) hH0 ?_ ?_ ?_
         rotate_left 2
         · simp only [Hd.ga, Hd.gs, Hd.gz]
           exact rfl
         · rfl
         · intro w hSw
           (try dsimp only at hSw)
           go_simp
           try with_reducible rfl
         try simp only [Act.put, Hd.sa, Hd.sz, Hd.ss]
         refine Hd.take 7 8 (oi := ?_) (v := ?_) ?_ (by kernel_rfl) (fun _ _ _ h => h) hH0 ?_ ?_ ?_
         rotate_left 2
         · simp only [Hd.ga, Hd.gs, Hd.gz]
           exact rfl
         · rfl
         · intro w hSw
           (try dsimp only at hSw)
           go_simp
           try with_reducible rfl
         try simp only [Act.put, Hd.sa, Hd.sz, Hd.ss]
         refine Hd.take 8 11 (oi := ?_) (v := ?_) ?_ (by kernel_rfl) (fun _ _ _ h => h) hH0 ?_ ?_ ?_
         rotate_left 2
         · simp only [Hd.ga, Hd.gs, Hd.gz]
           exact rfl
         · rfl
         · intro w hSw
           (try dsimp only at hSw)
           go_simp
           try with_reducible rfl
         try simp only [Act.put, Hd.sa, Hd.sz, Hd.ss]
         refine Hd.take 9 10 (oi := ?_) (v := ?_) ?_ (by kernel_rfl) (fun _ _ _ h => h) hH0 ?_ ?_ ?_
         rotate_left 2
         · simp only [Hd.ga, Hd.gs, Hd.gz]
           exact rfl
         · rfl
         · intro w hSw
           (try dsimp only at hSw)
           go_simp
           try with_reducible rfl
         try simp only [Act.put, Hd.sa, Hd.sz, Hd.ss]
         refine Hd.take 10 11 (oi := ?_) (v := ?_) ?_ (by kernel_rfl) (fun _ _ _ h => h) hH0 ?_ ?_ ?_
         rotate_left 2
         · simp only [Hd.ga, Hd.gs, Hd.gz]
           exact rfl
         · rfl
         · intro w hSw
           (try dsimp only at hSw)
           go_simp
           try with_reducible rfl
         try simp only [Act.put, Hd.sa, Hd.sz, Hd.ss]
         refine Hd.take 11 12 (oi := ?_) (v := ?_) ?_ (by kernel_rfl) (fun _ _ _ h => h) hH0 ?_ ?_ ?_
         rotate_left 2
         · simp only [Hd.ga, Hd.gs, Hd.gz]
           exact rfl
         · rfl
         · intro w hSw
           (try dsimp only at hSw)
           go_simp
           try with_reducible rfl
         try simp only [Act.put, Hd.sa, Hd.sz, Hd.ss]
         refine Hd.one 12 12 (o := ?_) ?_ (by kernel_rfl) (fun K hK => ?_)
         rotate_left 1
         · simp only [Hd.ga, Hd.gs, Hd.gz]
           exact rfl
         go_simp
         refine HC.out.mono ?_; rintro e w4 ⟨rfl, hb4⟩
         have HB4 := Lib.hid ((Below.refl _ wr).drew.trans hb4)
         clear hb4
         go_wp2_with fail
         refine hK.out _ _ (hS _ HB4.out) (fun hH1 => ?_)
         clear hK K
         try simp only [Act.put, Hd.sa, Hd.sz, Hd.ss]
         refine Hd.last 13 (o := ?_) ?_ (by kernel_rfl) (by kernel_rfl) (by kernel_rfl) (fun K hK => ?_)
         rotate_left 1
         · simp only [Hd.ga, Hd.gs, Hd.gz]
           exact rfl
         go_simp
         refine hK.out _ _ ?_
         clear hK K
         try simp only [Act.put, Hd.sa, Hd.sz, Hd.ss]
         simp only [NoPanic]
         clear hS hH0 hH1
         have HB5 := Lib.hid (hbr.trans (HB4.out.mono hbr.size))
         cases z with
         | false =>
          go_wp2_with fail
          go_ret
          exact ⟨by rw [HF.out]; simp, Hw3.out.trans (HB5.out.mono Hw3.out.size)⟩
         | true =>
          have HF2 := Lib.hid (HF.out.trans (Bool.true_and _))
          clear HF
          go_wp2_with fail
          exact ⟨⟨k + 1, by simp, by omega, HB5.out, HF2⟩, by simp only [intOf]; omega⟩
       · have b8 : (K == 8) = false := beq_eq_false_iff_ne.2 h8
         have hC := HC.out
         rw [b8, Bool.false_and] at hC
         replace HC := Lib.hid hC
         clear hC
         go_upto_region 6 with fail
         have hS : ∀ v, Below wr.heap.size wr v → (v.cell? ⟨w.heap.size, 0, none⟩ = some (.int .i64 K) ∧ v.cell? ⟨w.heap.size, 3, none⟩ = some (.slice (some ⟨gb, off, none⟩) n kc) ∧ (v.cell? ⟨gb, off + k * 6, none⟩ = some (.int .i64 y.kind) ∧ v.cell? ⟨gb, off + k * 6 + 1, none⟩ = some (.string ⟨y.name.toArray⟩) ∧ v.cell? ⟨gb, off + k * 6 + 2, none⟩ = some (.int .i64 y.num) ∧ v.cell? ⟨gb, off + k * 6 + 3, none⟩ = some (.slice ya y.kids.length yc) ∧ v.cell? ⟨gb, off + k * 6 + 4, none⟩ = some (.slice za y.names.length zc) ∧ v.cell? ⟨gb, off + k * 6 + 5, none⟩ = some (.int .i64 y.at_))) := fun v hv => by
          have hbk := HBR.out.below hv HBR.out.lt
          exact ⟨hbk.c 0 _ rfl, hbk.c 3 _ rfl, HROW.out.kp (w' := v) (fun i => hv.cell (p := ⟨gb, i, none⟩) hgb)⟩
         refine wp_region_noPanic ?_
         refine Hd.start (fun v => v.cell? ⟨w.heap.size, 0, none⟩ = some (.int .i64 K) ∧ v.cell? ⟨w.heap.size, 3, none⟩ = some (.slice (some ⟨gb, off, none⟩) n kc) ∧ (v.cell? ⟨gb, off + k * 6, none⟩ = some (.int .i64 y.kind) ∧ v.cell? ⟨gb, off + k * 6 + 1, none⟩ = some (.string ⟨y.name.toArray⟩) ∧ v.cell? ⟨gb, off + k * 6 + 2, none⟩ = some (.int .i64 y.num) ∧ v.cell? ⟨gb, off + k * 6 + 3, none⟩ = some (.slice ya y.kids.length yc) ∧ v.cell? ⟨gb, off + k * 6 + 4, none⟩ = some (.slice za y.names.length zc) ∧ v.cell? ⟨gb, off + k * 6 + 5, none⟩ = some (.int .i64 y.at_))) (by kernel_rfl) (hS _ (Below.refl _ wr).drew) (fun hH0 => ?_)
         refine Hd.take 0 1 (oi := ?_) (v := ?_) ?_ (by kernel_rfl) (fun _ _ _ h => h) hH0 ?_ ?_ ?_
         rotate_left 2
         · simp only [Hd.ga, Hd.gz]
           exact rfl
         · rfl
         · intro w hSw
           (try dsimp only at hSw)
           go_simp
           try with_reducible rfl
         try simp only [Act.put, Hd.sa, Hd.sz, Hd.ss]
         refine Hd.take 1 3 (oi := ?_) (v := ?_) ?_ (by kernel_rfl) (fun _ _ _ h => h) hH0 ?_ ?_ ?_
         rotate_left 2
         · simp only [Hd.ga, Hd.gs, Hd.gz]
           exact rfl
         · rfl
         · intro w hSw
           (try dsimp only at hSw)
           go_simp
           try with_reducible rfl
         try simp only [Act.put, Hd.sa, Hd.sz, Hd.ss]
         refine Hd.take 2 3 (oi := ?_) (v := ?_) ?_ (by kernel_rfl) (fun _ _ _ h => h) hH0 ?_ ?_ ?_
         rotate_left 2
         · simp only [Hd.ga, Hd.gs, Hd.gz]
           exact rfl
         · rfl
         · intro w hSw
           (try dsimp only at hSw)
           go_simp
           try with_reducible rfl
         try simp only [Act.put, Hd.sa, Hd.sz, Hd.ss]
         refine Hd.take 3 4 (oi := ?_) (v := ?_) ?_ (by kernel_rfl) (fun _ _ _ h => h) hH0 ?_ ?_ ?_
         rotate_left 2
         · simp only [Hd.ga, Hd.gs, Hd.gz]
           exact rfl
         · rfl
         · intro w hSw
           (try dsimp only at hSw)
           go_simp
           try with_reducible rfl
         try simp only [Act.put, Hd.sa, Hd.sz, Hd.ss]
         refine Hd.take 4 12 (oi := ?_) (v := ?_) ?_ (by kernel_rfl) (fun _ _ _ h => h) hH0 ?_ ?_ ?_
         rotate_left 2
         · simp only [Hd.ga, Hd.gs, Hd.gz]
           exact rfl
         · rfl
         · intro w hSw
           (try dsimp only at hSw)
           go_simp
           try with_reducible rfl
         try simp only [Act.put, Hd.sa, Hd.sz, Hd.ss]
         refine Hd.take 5 6 (oi := ?_) (v := ?_) ?_ (by kernel_rfl) (fun _ _ _ h => h) hH0 ?_ ?_ ?_
         rotate_left 2
         · simp only [Hd.ga, Hd.gs, Hd.gz]
           exact rfl
         · rfl
         · intro w hSw
           (try dsimp only at hSw)
           go_simp
           try with_reducible rfl
         try simp only [Act.put, Hd.sa, Hd.sz, Hd.ss]
         refine Hd.take 6 7 (oi := ?_) (v := ?_) ?_ (by kernel_rfl) (fun _ _ _ h => h) hH0 ?_ ?_ ?_
         rotate_left 2
         · simp only [Hd.ga, Hd.gs, Hd.gz]
           exact rfl
         · rfl
         · intro w hSw
           (try dsimp only at hSw)
           go_simp
           try with_reducible rfl
         try simp only [Act.put, Hd.sa, Hd.sz, Hd.ss]
         refine Hd.take 7 8 (oi := ?_) (v := ?_) ?_ (by kernel_rfl) (fun _ _ _ h => h) hH0 ?_ ?_ ?_
         rotate_left 2
         · simp only [Hd.ga, Hd.gs, Hd.gz]
           exact rfl
         · rfl
         · intro w hSw
           (try dsimp only at hSw)
           go_simp
           try with_reducible rfl
         try simp only [Act.put, Hd.sa, Hd.sz, Hd.ss]
         refine Hd.take 8 11 (oi := ?_) (v := ?_) ?_ (by kernel_rfl) (fun _ _ _ h => h) hH0 ?_ ?_ ?_
         rotate_left 2
         · simp only [Hd.ga, Hd.gs, Hd.gz]
           exact rfl
         · rfl
         · intro w hSw
           (try dsimp only at hSw)
           go_simp
           try with_reducible rfl
         try simp only [Act.put, Hd.sa, Hd.sz, Hd.ss]
         refine Hd.skip 9 10 (oi := ?_) ?_ (by kernel_rfl) (fun _ _ _ h => h) hH0 ?_ ?_
         rotate_left 1
         · simp only [Hd.ga, Hd.gs, Hd.gz]
           exact rfl
         · rfl
         try simp only [Act.put, Hd.sa, Hd.sz, Hd.ss]
         refine Hd.skip 10 11 (oi := ?_) ?_ (by kernel_rfl) (fun _ _ _ h => h) hH0 ?_ ?_
         rotate_left 1
         · simp only [Hd.ga, Hd.gs, Hd.gz]
           exact rfl
         · rfl
         try simp only [Act.put, Hd.sa, Hd.sz, Hd.ss]
         refine Hd.take 11 12 (oi := ?_) (v := ?_) ?_ (by kernel_rfl) (fun _ _ _ h => h) hH0 ?_ ?_ ?_
         rotate_left 2
         · simp only [Hd.ga, Hd.gs, Hd.gz]
           exact rfl
         · rfl
         · intro w hSw
           (try dsimp only at hSw)
           go_simp
           try with_reducible rfl
         try simp only [Act.put, Hd.sa, Hd.sz, Hd.ss]
         refine Hd.one 12 12 (o := ?_) ?_ (by kernel_rfl) (fun K hK => ?_)
         rotate_left 1
         · simp only [Hd.ga, Hd.gs, Hd.gz]
           exact rfl
         go_simp
         refine HC.out.mono ?_; rintro e w4 ⟨rfl, hb4⟩
         have HB4 := Lib.hid ((Below.refl _ wr).drew.trans hb4)
         clear hb4
         go_wp2_with fail
         refine hK.out _ _ (hS _ HB4.out) (fun hH1 => ?_)
         clear hK K
         try simp only [Act.put, Hd.sa, Hd.sz, Hd.ss]
         refine Hd.last 13 (o := ?_) ?_ (by kernel_rfl) (by kernel_rfl) (by kernel_rfl) (fun K hK => ?_)
         rotate_left 1
         · simp only [Hd.ga, Hd.gs, Hd.gz]
           exact rfl
         go_simp
         refine hK.out _ _ ?_
         clear hK K
         try simp only [Act.put, Hd.sa, Hd.sz, Hd.ss]
         simp only [NoPanic]
         clear hS hH0 hH1
         have HB5 := Lib.hid (hbr.trans (HB4.out.mono hbr.size))
         cases z with
         | false =>
          go_wp2_with fail
          go_ret
          exact ⟨by rw [HF.out]; simp, Hw3.out.trans (HB5.out.mono Hw3.out.size)⟩
         | true =>
          have HF2 := Lib.hid (HF.out.trans (Bool.true_and _))
          clear HF
          go_wp2_with fail
          exact ⟨⟨k + 1, by simp, by omega, HB5.out, HF2⟩, by simp only [intOf]; omega⟩
     · obtain rfl : k = n := by omega
       have hdec : decide ((k : Int) < (k : Int)) = false := by simp
       have HA : Hid (Q = true) := Lib.hid (hp.out.trans HFn.out)
       clear hp
       go_wp2_with fail
       go_ret
       exact ⟨by simp [HA.out], Hw3.out.trans (hbr.mono Hw3.out.size)⟩)
theorem rfits_all : ∀ (m : Nat) (x : Nd), cntL x.kids < m → ∀ may w kv nv, Tree (fun _ => True) w kv x.kids → Rd (fun _ => True) strV w nv x.names → Calls Tryz.prog 37 #[ndV x kv nv, .bool may] w (Back (.bool (fitsB x may)) w)
 | 0, x, h => by omega
 | m + 1, x, h => fun may w kv nv hk hn => rfits_step x (fun y hy => rfits_all m y (by have := cnt_mem hy; omega)) may w kv nv hk hn
theorem rfits_any (x : Nd) (may : Bool) (w : World) (kv nv : Value) (hk : Tree (fun _ => True) w kv x.kids) (hn : Rd (fun _ => True) strV w nv x.names) : Calls Tryz.prog 37 #[ndV x kv nv, .bool may] w (Back (.bool (fitsB x may)) w) :=
 rfits_all (cntL x.kids + 1) x (by omega) may w kv nv hk hn
def RDepthK (l : List Nd) : Prop := ∀ y ∈ l, ∀ v w, Tree (fun _ => True) w v y.kids → Calls Tryz.prog 13 #[v] w (Done (.int .i64 (depthL y.kids : Int)) w)
set_option maxRecDepth 100000 in
set_option maxHeartbeats 3200000 in
theorem rdepth_step (l : List Nd) (IH : RDepthK l) (hcnt : cntL l ≤ 100000) (v : Value) (w : World) (hl : Tree (fun _ => True) w v l) :
  Calls Tryz.prog 13 #[v] w (Done (.int .i64 (depthL l : Int)) w) := by
 obtain ⟨a, c, rfl, hc, hm⟩ := hl.form
 obtain ⟨n, hn⟩ : ∃ n, l.length = n := ⟨_, rfl⟩
 have HN := Lib.hid hn
 unfold maxLen at hm
 have hn9 : n ≤ 100000 := by have := len_le_cnt l; omega
 rw [hn] at hl hc ⊢
 have HL := Lib.hid hl
 obtain ⟨D, hD⟩ : ∃ D : Nat → Nat, D = fun k => depthL (l.take k) := ⟨_, rfl⟩
 have hD0 : D 0 = 0 := by rw [hD]; show depthL (l.take 0) = 0; rw [List.take_zero, depthL_nil]
 have hDn : D n = depthL l := by rw [hD]; show depthL (l.take n) = _; rw [List.take_of_length_le (by omega)]
 have hDS : ∀ k x, l[k]? = some x → D (k + 1) = max (D k) (1 + depthL x.kids) := fun k x hx => by rw [hD]; exact depth_take hx
 have hDle : ∀ x ∈ l, depthL x.kids ≤ 100000 := fun x hx => by have := cnt_mem hx; have := depth_le_cnt x.kids; omega
 rw [← hDn]
 have HDS := Lib.hid hDS
 have HDle := Lib.hid hDle
 replace IH := Lib.hid IH
 clear hl hn hcnt hD hDS hDn hDle
 go_enter Tryz.func13, Tryz.ntmps13
 go_wp2_with fail
 go_loopw [3, 4, 5] (fun d y _ wr => ∃ k : Nat, y = .int .i64 (k : Int) ∧ d = .int .i64 (D k : Int) ∧ k ≤ n ∧ w = wr) (fun _ y _ _ => n - (intOf y).toNat)
 case atStart => exact ⟨0, rfl, by rw [hD0]; rfl, Nat.zero_le _, rfl⟩
 case round =>
  obtain ⟨k, rfl, rfl, hk, rfl⟩ := hrel
  by_cases hkn : k < n
  · have hdec : decide ((k : Int) < (n : Int)) = true := by simpa using hkn
    have hkw : IntKind.i64.wrap ((k : Int) + 1) = (k : Int) + 1 := IntWalk.i64_in _ (by omega)
    obtain ⟨gb, off, x, ka, kc, na, nc, rfl, hx, hgb, -, ⟨c0, c1, c2, c3, c4, c5⟩, hkt, hnt⟩ := HL.out.nth k hkn
    have HC := Lib.hid (IH.out x (List.mem_of_getElem? hx) _ _ hkt)
    have HS := Lib.hid (HDS.out k x hx)
    have hx9 := HDle.out x (List.mem_of_getElem? hx)
    obtain ⟨d, hd⟩ : ∃ d, depthL x.kids = d := ⟨_, rfl⟩
    rw [hd] at HC HS hx9
    have hdw : IntKind.i64.wrap (1 + (d : Int)) = 1 + (d : Int) := IntWalk.i64_in _ (by omega)
    obtain ⟨m, hm2⟩ : ∃ m, D k = m := ⟨_, rfl⟩
    rw [hm2] at HS ⊢
    clear hx hkt hnt hd hm2
    by_cases hdm : m < 1 + d
    · have hg : decide ((m : Int) < 1 + (d : Int)) = true := decide_eq_true (by omega)
      go_wp2_with fail
      refine HC.out.mono ?_; rintro e w1 ⟨rfl, hw1⟩; obtain rfl := hw1.symm
      go_wp2_with fail
      exact ⟨⟨k + 1, by simp, by rw [HS.out]; simp; omega, by omega, by trivial⟩, by simp only [intOf]; omega⟩
    · have hg : decide ((m : Int) < 1 + (d : Int)) = false := decide_eq_false (by omega)
      go_wp2_with fail
      refine HC.out.mono ?_; rintro e w1 ⟨rfl, hw1⟩; obtain rfl := hw1.symm
      go_wp2_with fail
      exact ⟨⟨k + 1, by simp, by rw [HS.out]; simp; omega, by omega, by trivial⟩, by simp only [intOf]; omega⟩
  · obtain rfl : k = n := by omega
    have hdec : decide ((k : Int) < (k : Int)) = false := by simp
    go_wp2_with fail
    go_ret
    exact ⟨by simp, rfl⟩
theorem rdepth_all : ∀ (m : Nat) (l : List Nd), cntL l < m → cntL l ≤ 100000 → ∀ v w, Tree (fun _ => True) w v l → Calls Tryz.prog 13 #[v] w (Done (.int .i64 (depthL l : Int)) w)
 | 0, l, h => by omega
 | m + 1, l, h => fun h2 v w hl => rdepth_step l (fun y hy => rdepth_all m y.kids (by have := cnt_mem hy; omega) (by have := cnt_mem hy; omega)) h2 v w hl
theorem rdepth_any (l : List Nd) (hcnt : cntL l ≤ 100000) (v : Value) (w : World) (hl : Tree (fun _ => True) w v l) : Calls Tryz.prog 13 #[v] w (Done (.int .i64 (depthL l : Int)) w) :=
 rdepth_all (cntL l + 1) l (by omega) hcnt v w hl
/-- All nodes in a row. -/
def AllOk (l : List Nd) : Prop := ∀ (v : Value) (w : World), Tree (fun _ => True) w v l → Calls Tryz.prog 15 #[v] w
 (fun e w' => Below w.heap.size w w' ∧ ∃ v' vl, e = .returned v' ∧ (vl : VL).map (·.1) = allL l ∧ w'.ownsRow w.heap.size RT 6 v' vl.length (flatN vl) ∧ (vl = [] → v' = .slice none 0 0) ∧ ∀ u ∈ flatN vl, u.oneCell' = true)
theorem all_take {l : List Nd} {k : Nat} {x : Nd} (hx : l[k]? = some x) : allL (l.take (k + 1)) = allL (l.take k) ++ [x] ++ allL x.kids := by
 rw [take_snoc hx, allL_append, allL_cons, allL_nil]
 simp
theorem flatN_app (a b : VL) : flatN (a ++ b) = flatN a ++ flatN b := by unfold flatN; simp
set_option maxRecDepth 100000 in
set_option maxHeartbeats 3200000 in
theorem rall_step (l : List Nd) (hcnt : cntL l ≤ 100000) (IH : ∀ y ∈ l, AllOk y.kids) : AllOk l := by
 intro v w hl
 obtain ⟨i0, hi0, hz0, hz1, hz2⟩ := info_parts (show (Tryz.prog.info? 45).map (fun i => (i.zero, i.size, i.bytes)) = some (some (.agg #[.int .i64 0, .string ⟨#[]⟩, .int .i64 0, .slice none 0 0, .slice none 0 0, .int .i64 0]), 6, 88) by kernel_rfl)
 have tsl : Tryz.prog.underlying 23 = some (.slice 45) := by kernel_rfl
 obtain ⟨a, c, rfl, hc, hm⟩ := hl.form
 obtain ⟨n, hn⟩ : ∃ n, l.length = n := ⟨_, rfl⟩
 have HN := Lib.hid hn
 unfold maxLen at hm
 rw [hn] at hl hc ⊢
 have HL := Lib.hid hl
 have hlen : ∀ k, (allL (l.take k)).length ≤ 100000 := fun k => by
  rw [allL_len]
  have h2 := cntL_append (l.take k) (l.drop k)
  rw [List.take_append_drop] at h2
  omega
 have HLE := Lib.hid hlen
 replace IH := Lib.hid IH
 clear hl hn hlen
 go_enter Tryz.func15, Tryz.ntmps15
 go_wp2_with fail
 go_loopw [3, 4] (fun o y wr => ∃ (k : Nat) (vl : VL), y = .int .i64 (k : Int) ∧ k ≤ n ∧ Hid (wr.ownsRow w.heap.size RT 6 o vl.length (flatN vl)) ∧ Hid (vl.map (·.1) = allL (l.take k)) ∧ Hid (vl = [] → o = .slice none 0 0) ∧ Hid (∀ u ∈ flatN vl, u.oneCell' = true) ∧ Hid (Below w.heap.size w wr)) (fun _ y _ => n - (intOf y).toNat)
 case atStart => exact ⟨0, [], rfl, Nat.zero_le _, Lib.hid (World.ownsRow_nil _ _ _ _), Lib.hid (by rw [List.take_zero, allL_nil]; rfl), Lib.hid (fun _ => rfl), Lib.hid (fun u hu => by cases hu), Lib.hid (Below.refl _ _)⟩
 case round =>
  obtain ⟨k, vl, rfl, hk, hown, hvl, hnil, hone, hbr⟩ := hrel
  by_cases hkn : k < n
  · have hdec : decide ((k : Int) < (n : Int)) = true := by simpa using hkn
    have hkw : IntKind.i64.wrap ((k : Int) + 1) = (k : Int) + 1 := IntWalk.i64_in _ (by omega)
    obtain ⟨gb, off, x, ka, kc, na, nc, rfl, hx, hgb, -, hrow, hkt, hnt⟩ := HL.out.nth k hkn
    obtain ⟨c0, c1, c2, c3, c4, c5⟩ := hrow.kp (w' := wr) (fun i => hbr.out.cell (p := ⟨gb, i, none⟩) hgb)
    have HSTEP := Lib.hid (all_take hx)
    have HIH := Lib.hid (IH.out x (List.mem_of_getElem? hx))
    have hvll : vl.length ≤ 100000 := by have h1 := HLE.out k; rw [← hvl.out, List.length_map] at h1; exact h1
    have hsz1 : (vl.length + 1) + (allL x.kids).length ≤ 100000 := by
     have h1 := HLE.out (k + 1)
     rw [HSTEP.out, ← hvl.out] at h1
     simp only [List.length_append, List.length_map, List.length_cons, List.length_nil] at h1
     omega
    have HX := Lib.hid (alloc_bel wr (.cells #[.int .i64 x.kind, .string ⟨x.name.toArray⟩, .int .i64 x.num, .slice ka x.kids.length kc, .slice na x.names.length nc, .int .i64 x.at_] 45))
    have HROW := Lib.hid (own_below hown.out HX.out)
    have HKT := Lib.hid hkt
    have HRW := Lib.hid hrow
    have hwb := hbr.out.size
    have HOWN5 := Lib.hid hown.out.lt
    obtain ⟨W5, hW5⟩ : ∃ W, wr.alloc (.cells #[.int .i64 x.kind, .string ⟨x.name.toArray⟩, .int .i64 x.num, .slice ka x.kids.length kc, .slice na x.names.length nc, .int .i64 x.at_] 45) = W := ⟨_, rfl⟩
    have hc6 := cells6 wr RT (.int .i64 x.kind) (.string ⟨x.name.toArray⟩) (.int .i64 x.num) (.slice ka x.kids.length kc) (.slice na x.names.length nc) (.int .i64 x.at_)
    rw [hW5] at HX HROW
    have hs5 : W5.heap.size = wr.heap.size + 1 := by rw [← hW5]; simp
    have HC6 : Hid (∀ j u, [Value.int .i64 x.kind, .string ⟨x.name.toArray⟩, .int .i64 x.num, .slice ka x.kids.length kc, .slice na x.names.length nc, .int .i64 x.at_][j]? = some u → W5.cell? ((⟨wr.heap.size, 0, none⟩ : Addr).add j) = some u) := Lib.hid (by rw [← hW5]; exact hc6)
    clear hrow hkt hnt hc6
    go_wp2_with (at_builtin; refine wpList_append_lies _ rfl _ _ 23 rfl w.heap.size RT i0 (.agg #[.int .i64 0, .string ⟨#[]⟩, .int .i64 0, .slice none 0 0, .slice none 0 0, .int .i64 0]) 6 88 tsl hi0 hz0 hz1 hz2 rfl (by decide) _ vl.length (flatN vl) rfl HROW.out ⟨wr.heap.size, 0, none⟩ 1 1 [.int .i64 x.kind, .string ⟨x.name.toArray⟩, .int .i64 x.num, .slice ka x.kids.length kc, .slice na x.names.length nc, .int .i64 x.at_] rfl rfl HC6.out (fun u hu => by simp at hu; rcases hu with rfl | rfl | rfl | rfl | rfl | rfl <;> rfl) (by decide) (by unfold maxLen; omega) (by omega) (by omega) _ rfl ?_)
    intro g cap w6 hown6 hgrow6 hat6 hlt6
    have hb6 : Below w.heap.size w w6 := (hbr.out.trans (HX.out.mono hwb)).grown hgrow6 (by have := hbr.out.size; have := HX.out.size; omega) (fun k hk => (HOWN5.out k hk).1)
    obtain ⟨f0, f1, f2, f3, f4, f5⟩ := HRW.out.kp (w' := w6) (fun i => hb6.cell (p := ⟨gb, i, none⟩) hgb)
    have HC := Lib.hid (HIH.out _ w6 (HKT.out.bel hb6))
    have e6 : flatN vl ++ [.int .i64 x.kind, .string ⟨x.name.toArray⟩, .int .i64 x.num, .slice ka x.kids.length kc, .slice na x.names.length nc, .int .i64 x.at_] = flatN (vl ++ [((x, .slice ka x.kids.length kc, .slice na x.names.length nc) : Nd × Value × Value)]) := by rw [flatN_snoc]; rfl
    rw [e6] at hown6
    have HO6 := Lib.hid hown6
    have HB6 := Lib.hid hb6
    have HNE : Hid (∀ u ∈ flatN (vl ++ [((x, .slice ka x.kids.length kc, .slice na x.names.length nc) : Nd × Value × Value)]), u.oneCell' = true) := Lib.hid (by
     rw [← e6]
     intro u hu
     rcases List.mem_append.1 hu with hu | hu
     · exact hone.out u hu
     · simp at hu; rcases hu with rfl | rfl | rfl | rfl | rfl | rfl <;> rfl)
    clear hown6 hgrow6 hat6 hb6 c0 c1 c2 c3 c4 c5 e6 hW5
    go_wp2_with fail
    refine HC.out.mono ?_; rintro e w7 ⟨hb7, v7, vl7, rfl, hvl7, hown7, hnil7, hone7⟩
    have HB7 := Lib.hid (HB6.out.trans (hb7.mono HB6.out.size))
    have HO7 := Lib.hid (own_below HO6.out hb7)
    have HVL7 := Lib.hid hvl7
    have HNE7 := Lib.hid hone7
    have HL7 : Hid (vl7.length = (allL x.kids).length) := Lib.hid (by rw [← hvl7, List.length_map])
    have HALL : Hid ((vl ++ [((x, .slice ka x.kids.length kc, .slice na x.names.length nc) : Nd × Value × Value)] ++ vl7).map (·.1) = allL (l.take (k + 1))) := Lib.hid (by
     rw [HSTEP.out, ← hvl.out, ← hvl7]; simp)
    by_cases h7 : vl7 = []
    · have hv7 := hnil7 h7
      subst hv7
      subst h7
      clear hb7 hown7 hnil7 hone7 hvl7 f0 f1 f2 f3 f4 f5
      go_wp2_with (at_builtin; refine wpList_append_own_none rfl _ _ 23 rfl w.heap.size RT i0 6 tsl hi0 _ (vl.length + 1) (flatN (vl ++ [((x, .slice ka x.kids.length kc, .slice na x.names.length nc) : Nd × Value × Value)])) rfl HO7.out rfl ?_)
      go_wp2_with fail
      exact ⟨⟨k + 1, vl ++ [((x, .slice ka x.kids.length kc, .slice na x.names.length nc) : Nd × Value × Value)], by simp, by omega, Lib.hid (by have h := HO7.out; rw [List.length_append]; exact h), Lib.hid (by have := HALL.out; simpa using this), Lib.hid (fun h => by simp at h), HNE, HB7⟩, by simp only [intOf]; omega⟩
    · have hp7 : 0 < vl7.length := List.length_pos_iff.2 h7
      obtain ⟨g7, cap7, rfl, hg7, hlt7⟩ := hown7.form hp7
      have HC7 : Hid (∀ j u, (flatN vl7)[j]? = some u → w7.cell? ((⟨g7, 0, none⟩ : Addr).add j) = some u) := Lib.hid (fun j u hj => World.ownsRow.cells hown7 (g := g7) rfl j u hj)
      have hs7 := HB7.out.size
      clear hb7 hown7 hnil7 hone7 hvl7 f0 f1 f2 f3 f4 f5 h7
      go_wp2_with (at_builtin; refine wpList_append_lies _ rfl _ _ 23 rfl w.heap.size RT i0 (.agg #[.int .i64 0, .string ⟨#[]⟩, .int .i64 0, .slice none 0 0, .slice none 0 0, .int .i64 0]) 6 88 tsl hi0 hz0 hz1 hz2 rfl (by decide) _ (vl.length + 1) (flatN (vl ++ [((x, .slice ka x.kids.length kc, .slice na x.names.length nc) : Nd × Value × Value)])) rfl HO7.out ⟨g7, 0, none⟩ vl7.length cap7 (flatN vl7) rfl (flatN_len vl7) HC7.out HNE7.out hp7 (by have := HL7.out; unfold maxLen; omega) (by have := HL7.out; omega) (by omega) _ rfl ?_)
      intro g8 cap8 w8 hown8 hgrow8 hat8 hlt8
      have HB8 : Hid (Below w.heap.size w w8) := Lib.hid (HB7.out.grown hgrow8 hs7 (fun k hk => (HO7.out.lt k hk).1))
      rw [← flatN_app] at hown8
      have HO8 := Lib.hid hown8
      clear hown8 hgrow8 hat8 hlt8
      go_wp2_with fail
      exact ⟨⟨k + 1, vl ++ [((x, .slice ka x.kids.length kc, .slice na x.names.length nc) : Nd × Value × Value)] ++ vl7, by simp, by omega, Lib.hid (by have h := HO8.out; rw [List.length_append, List.length_append]; exact h), HALL, Lib.hid (fun h => by simp at h), Lib.hid (fun u hu => by
       rw [flatN_app] at hu
       rcases List.mem_append.1 hu with hu | hu
       · exact HNE.out u hu
       · exact HNE7.out u hu), HB8⟩, by simp only [intOf]; omega⟩
  · obtain rfl : k = n := by omega
    have hdec : decide ((k : Int) < (k : Int)) = false := by simp
    have hall : l.take k = l := List.take_of_length_le (by rw [HN.out]; exact Nat.le_refl _)
    rw [hall] at hvl
    clear hall
    go_wp2_with fail
    go_ret
    exact ⟨hbr.out, _, vl, rfl, hvl.out, hown.out, hnil.out, hone.out⟩
theorem rall_all : ∀ (m : Nat) (l : List Nd), cntL l < m → cntL l ≤ 100000 → AllOk l
 | 0, l, h, _ => by omega
 | m + 1, l, h, h2 => rall_step l h2 (fun y hy => rall_all m y.kids (by have := cnt_mem hy; omega) (by have := cnt_mem hy; omega))
theorem rall_any (l : List Nd) (h : cntL l ≤ 100000) : AllOk l := rall_all (cntL l + 1) l (by omega) h
end Tr
end Go.Proofs.YtfbhokdcnjekiaaGreatDoor
