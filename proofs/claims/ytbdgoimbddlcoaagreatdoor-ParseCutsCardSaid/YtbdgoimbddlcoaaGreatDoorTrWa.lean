/- Package tree, the walk: Walk, Depth, Count, sized. -/
import Derived.Test.YtbdgoimbddlcoaaGreatDoorTrMa
import Derived.WalkSpells
import Derived.WalkLawsBesides
set_option linter.unusedVariables false
namespace Go.Proofs.YtbdgoimbddlcoaaGreatDoor
open Go.RowKit
namespace Tr
open Bs Sm
theorem ret2' {a a' b b' : Value} (h : a = a') (h' : b = b') : Ending.returned (.tuple #[a, b]) = .returned (.tuple #[a', b']) := by rw [h, h']
theorem vint' {k : IntKind} {a b : Int} (h : a = b) : Value.int k a = Value.int k b := by rw [h]
set_option maxHeartbeats 400000 in
theorem of_in (n : Int) (w : World) (h : Inr n) :
  Calls Tryz.prog 76 #[.int .i64 n] w fun e w' => e = .returned (.tuple #[.int .u64 (wd n), .int .i64 0]) ∧ w = w' := by
 obtain ⟨h1, h2⟩ := h
 go_enter Tryz.func76, Tryz.ntmps76
 go_wp2
 go_ret2
 exact ⟨ret2' (vint' (or_one n)) rfl, rfl⟩
set_option maxHeartbeats 400000 in
theorem of_out (n : Int) (w : World) (h : ¬ Inr n) (h1 : -9223372036854775808 ≤ n) (h2 : n ≤ 9223372036854775807) :
  Calls Tryz.prog 76 #[.int .i64 n] w fun e w' => e = .returned (.tuple #[.int .u64 0, .int .i64 9]) ∧ w = w' := by
 unfold Inr at h
 by_cases h3 : n < -4611686018427387904
 · clear h
   go_enter Tryz.func76, Tryz.ntmps76
   go_wp2
   go_ret2
   exact ⟨rfl, rfl⟩
 · have h4 : 4611686018427387903 < n := by omega
   clear h
   go_enter Tryz.func76, Tryz.ntmps76
   go_wp2
   go_ret2
   exact ⟨rfl, rfl⟩
/-- A method's value. -/
def mtV (m : Mt) (pv tv bv : Value) : Value := .agg #[.string ⟨m.name.toArray⟩, pv, tv, .int .i64 m.prim, bv, .int .i64 m.at_]
/-- A method's parts in memory. -/
structure MtAt (S : Nat → Prop) (w : World) (m : Mt) (pv tv bv : Value) : Prop where
 params : Rd S strV w pv m.params
 temps : Rd S strV w tv m.temps
 body : Tree S w bv m.body
theorem MtAt.bel {S : Nat → Prop} {w w' : World} {m : Mt} {pv tv bv : Value} (h : MtAt S w m pv tv bv) (hb : Below w.heap.size w w') : MtAt S w' m pv tv bv := ⟨h.params.below hb, h.temps.below hb, h.body.bel hb⟩
theorem MtAt.mono {S S' : Nat → Prop} {w : World} {m : Mt} {pv tv bv : Value} (h : MtAt S w m pv tv bv) (hs : ∀ b, S b → b < w.heap.size → S' b) : MtAt S' w m pv tv bv := ⟨h.params.mono hs, h.temps.mono hs, h.body.mono hs⟩
theorem MtAt.kp {S : Nat → Prop} {w w' : World} {m : Mt} {pv tv bv : Value} (h : MtAt S w m pv tv bv) (hb : Kp S w w') : MtAt S w' m pv tv bv := ⟨h.params.kp hb, h.temps.kp hb, h.body.kp hb⟩
theorem Walk_any {σ : Type} {X : Nat → Prop} {kf : Nat} {cap : Array Value} {Inv : σ → World → Prop} {stp : Nd → σ → Bool × σ} {B : Nat} {m : Mt} {pv tv bv : Value} (hS : See X kf cap Inv stp B m.body) (s : σ) (w : World)
  (hI : Inv s w) (hB : B ≤ w.heap.size) (hl : Tree (fun b => ¬ X b) w bv m.body) :
  Calls Tryz.prog 74 #[mtV m pv tv bv, .func (.func kf) #[] cap] w (fun e w' => e = .returned (.bool (goW stp (allL m.body) s).1) ∧ Inv (goW stp (allL m.body) s).2 w' ∧ But X w w') := by
 have hX := alloc_bel w (.cells #[.string ⟨m.name.toArray⟩, pv, tv, .int .i64 m.prim, bv, .int .i64 m.at_] 28)
 have HC := walk_any hS bv s _ (hS.keep s _ _ hI hX) (Nat.le_trans hB hX.size) (hl.bel hX)
 obtain ⟨a, c, rfl, -, -⟩ := hl.form
 unfold mtV
 have HC := Lib.hid HC
 have HX := Lib.hid hX
 clear hS hI hl hX
 go_enter Tryz.func74, Tryz.ntmps74
 go_wp2_with fail
 refine HC.out.mono ?_; rintro e w1 ⟨rfl, hi, hb⟩
 have HI := Lib.hid hi
 have HB := Lib.hid hb
 clear hi hb
 go_wp2_with fail
 go_ret
 exact ⟨by simp, HI.out, (But.of HX.out).trans HB.out⟩
theorem Depth_any {S : Nat → Prop} {m : Mt} {pv tv bv : Value} (hc : cntL m.body ≤ 100000) (w : World) (hl : Tree S w bv m.body) :
  Calls Tryz.prog 77 #[mtV m pv tv bv] w (Back (.int .i64 (depthL m.body : Int)) w) := by
 have hX := alloc_bel w (.cells #[.string ⟨m.name.toArray⟩, pv, tv, .int .i64 m.prim, bv, .int .i64 m.at_] 28)
 have HC := Lib.hid (depth_any m.body hc bv _ ((hl.mono (fun _ _ _ => trivial)).bel hX))
 obtain ⟨a, c, rfl, -, -⟩ := hl.form
 unfold mtV
 have HX := Lib.hid hX
 clear hl hX
 go_enter Tryz.func77, Tryz.ntmps77
 go_wp2_with fail
 refine HC.out.mono ?_; rintro e w1 ⟨rfl, hb⟩
 go_wp2_with fail
 go_ret
 exact ⟨by simp, HX.out.trans (hb.mono HX.out.size)⟩
theorem ent69 : Ent 75 := enters_of Tryz.func75 (by kernel_rfl) rfl
/-- Counting. -/
def leastS (x : Nd) (e : Int) : Bool × Int := (true, leastF e x)
theorem least_go : ∀ (l : List Nd) (e : Int), goW leastS l e = (true, l.foldl leastF e)
 | [], e => rfl
 | x :: l, e => by
  rw [goW, List.foldl_cons]
  exact least_go l (leastF e x)
set_option maxRecDepth 100000 in
set_option maxHeartbeats 3200000 in
theorem sized_see (k : Nat) (l : List Nd) (hl : ∀ x ∈ allL l, InI x) : See (fun b => b = k) 75 #[.pointer (some ⟨k, 0, none⟩)] (fun (n : Int) w => Blk 29 k #[.int .i64 n] w) leastS (k + 1) l := by
 refine ⟨ent69, fun b hb => by omega, fun s w w' h hb => h.below hb h.lt, fun x hx ka kc na nc s w hI hB hk hn => ?_⟩
 have hnum := hl x hx
 have HI := Lib.hid (show Blk 29 k #[.int .i64 s] w from hI)
 have hX := alloc_bel w (.cells #[.int .i64 x.kind, .string ⟨x.name.toArray⟩, .int .i64 x.num, .slice ka x.kids.length kc, .slice na x.names.length nc, .int .i64 x.at_] 79)
 have HX := Lib.hid hX
 have c0 : w.cell? ⟨k, 0, none⟩ = some (.int .i64 s) := hI.c 0 _ rfl
 have cf : ∀ i, w.frozen? ⟨k, i, none⟩ = false := hI.fz
 have hlt := hI.lt
 have n1 : ¬ k = w.heap.size := by omega
 have n2 : ¬ w.heap.size = k := by omega
 have hOf : ∃ a b : Int, (b != 0) = (decide (x.num < -4611686018427387904) || decide (4611686018427387903 < x.num)) ∧ ∀ w', Calls Tryz.prog 76 #[.int .i64 x.num] w' (fun e w'' => e = .returned (.tuple #[.int .u64 a, .int .i64 b]) ∧ w' = w'') := by
  by_cases h : Inr x.num
  · refine ⟨_, 0, ?_, fun w' => of_in x.num w' h⟩
    obtain ⟨h1, h2⟩ := h
    rw [decide_eq_false (by omega), decide_eq_false (by omega)]; rfl
  · refine ⟨0, 9, ?_, fun w' => of_out x.num w' h hnum.1 hnum.2⟩
    unfold Inr at h
    by_cases h3 : x.num < -4611686018427387904
    · rw [decide_eq_true h3]; rfl
    · rw [decide_eq_true (p := 4611686018427387903 < x.num) (by omega)]; simp
 obtain ⟨oa, ob, hob, hOf⟩ := hOf
 unfold ndV
 suffices H : Calls Tryz.prog 75 #[.agg #[.int .i64 x.kind, .string ⟨x.name.toArray⟩, .int .i64 x.num, .slice ka x.kids.length kc, .slice na x.names.length nc, .int .i64 x.at_], .pointer (some ⟨k, 0, none⟩)] w
  (fun e w' => e = .returned (.bool true) ∧ Blk 29 k #[.int .i64 (leastF s x)] w' ∧ But (fun b => b = k) w w') from H
 have hlen : (⟨x.name.toArray⟩ : ByteArray).size = x.name.length := rfl
 obtain ⟨K, hK⟩ : ∃ K, x.kind = K := ⟨_, rfl⟩
 obtain ⟨N, hN⟩ : ∃ K, x.name.length = K := ⟨_, rfl⟩
 have hbig : bigB x = ((K == 2 && decide (4096 < N)) || (K == 3 && decide (64 < N))) := by unfold bigB; rw [hK, hN]
 have hover : overB x = ((ob != 0) || x.num == -4611686018427387904) := by unfold overB; rw [hob]
 obtain ⟨sx, hsx⟩ : ∃ s : ByteArray, (⟨x.name.toArray⟩ : ByteArray) = s := ⟨_, rfl⟩
 have hsz : sx.size = N := by rw [← hsx, hlen, hN]
 rw [hK, hsx]
 have HOf := Lib.hid hOf
 clear hI hk hn hOf hX hK hN hlen hsx hl hx hob hnum
 by_cases h1 : K = 2 ∧ 4096 < N
 · have HB : Hid (leastF s x = min s 2) := Lib.hid (by unfold leastF; rw [hbig, h1.1, decide_eq_true h1.2]; rfl)
   obtain ⟨rfl, h2⟩ := h1
   have hd : decide ((4096 : Int) < (N : Int)) = true := decide_eq_true (by omega)
   clear hbig hover
   go_enter Tryz.func75, Tryz.ntmps75
   go_wp2_with fail
   refine (HOf.out _).mono ?_; rintro e w1 ⟨rfl, rfl⟩
   go_wp2_with fail
   go_ret
   exact ⟨by simp, by rw [HB.out]; exact (HI.out.set_ 0 (.int .i64 (min s 2)) #[.int .i64 (min s 2)] rfl).alloc _, ((But.refl (fun b => b = k) w).set_ (k := k) rfl 0 _).alloc _⟩
 by_cases h3 : K = 3 ∧ 64 < N
 · have HB : Hid (leastF s x = min s 2) := Lib.hid (by unfold leastF; rw [hbig, h3.1, decide_eq_true h3.2]; simp)
   obtain ⟨rfl, h2⟩ := h3
   have hd : decide ((64 : Int) < (N : Int)) = true := decide_eq_true (by omega)
   clear hbig hover h1
   go_enter Tryz.func75, Tryz.ntmps75
   go_wp2_with fail
   refine (HOf.out _).mono ?_; rintro e w1 ⟨rfl, rfl⟩
   go_wp2_with fail
   go_ret
   exact ⟨by simp, by rw [HB.out]; exact (HI.out.set_ 0 (.int .i64 (min s 2)) #[.int .i64 (min s 2)] rfl).alloc _, ((But.refl (fun b => b = k) w).set_ (k := k) rfl 0 _).alloc _⟩
 have hnb : bigB x = false := by
  rw [hbig]
  by_cases a : K = 2
  · have : ¬ 4096 < N := fun h => h1 ⟨a, h⟩
    rw [decide_eq_false this, a]; rfl
  · by_cases b : K = 3
    · have : ¬ 64 < N := fun h => h3 ⟨b, h⟩
      rw [decide_eq_false this, b]; simp
    · rw [beq_eq_false_iff_ne.2 a, beq_eq_false_iff_ne.2 b]; rfl
 have hle : leastF s x = if ((ob != 0) || x.num == -4611686018427387904) = true then min s 9 else s := by unfold leastF; rw [hnb, hover]; rfl
 clear hbig hnb hover
 have hcase : (K = 2 ∧ decide ((4096 : Int) < (N : Int)) = false) ∨ (K = 3 ∧ decide ((64 : Int) < (N : Int)) = false) ∨ ((K == 2) = false ∧ (K == 3) = false) := by
  by_cases a : K = 2
  · exact .inl ⟨a, decide_eq_false (fun h => h1 ⟨a, by omega⟩)⟩
  · by_cases b : K = 3
    · exact .inr (.inl ⟨b, decide_eq_false (fun h => h3 ⟨b, by omega⟩)⟩)
    · exact .inr (.inr ⟨beq_eq_false_iff_ne.2 a, beq_eq_false_iff_ne.2 b⟩)
 clear h1 h3
 cases ho : (ob != 0) with
 | true =>
  have HB : Hid (leastF s x = min s 9) := Lib.hid (by rw [hle, ho]; rfl)
  clear hle
  rcases hcase with ⟨rfl, hd⟩ | ⟨rfl, hd⟩ | ⟨b2, b3⟩
  all_goals (
   go_enter Tryz.func75, Tryz.ntmps75
   go_wp2_with fail
   refine (HOf.out _).mono ?_; rintro e w1 ⟨rfl, rfl⟩
   go_wp2_with fail
   go_ret
   exact ⟨by simp, by rw [HB.out]; exact (HI.out.set_ 0 (.int .i64 (min s 9)) #[.int .i64 (min s 9)] rfl).alloc _, ((But.refl (fun b => b = k) w).set_ (k := k) rfl 0 _).alloc _⟩)
 | false =>
  cases hu : (x.num == -4611686018427387904) with
  | true =>
   have HB : Hid (leastF s x = min s 9) := Lib.hid (by rw [hle, ho, hu]; rfl)
   clear hle
   rcases hcase with ⟨rfl, hd⟩ | ⟨rfl, hd⟩ | ⟨b2, b3⟩
   all_goals (
    go_enter Tryz.func75, Tryz.ntmps75
    go_wp2_with fail
    refine (HOf.out _).mono ?_; rintro e w1 ⟨rfl, rfl⟩
    go_wp2_with fail
    go_ret
    exact ⟨by simp, by rw [HB.out]; exact (HI.out.set_ 0 (.int .i64 (min s 9)) #[.int .i64 (min s 9)] rfl).alloc _, ((But.refl (fun b => b = k) w).set_ (k := k) rfl 0 _).alloc _⟩)
  | false =>
   have HB : Hid (leastF s x = s) := Lib.hid (by rw [hle, ho, hu]; rfl)
   clear hle
   rcases hcase with ⟨rfl, hd⟩ | ⟨rfl, hd⟩ | ⟨b2, b3⟩
   all_goals (
    go_enter Tryz.func75, Tryz.ntmps75
    go_wp2_with fail
    refine (HOf.out _).mono ?_; rintro e w1 ⟨rfl, rfl⟩
    go_wp2_with fail
    go_ret
    exact ⟨by simp, by rw [HB.out]; exact HI.out.alloc _, (But.refl (fun b => b = k) w).alloc _⟩)
set_option maxRecDepth 100000 in
set_option maxHeartbeats 3200000 in
theorem sized_any {S : Nat → Prop} {m : Mt} {pv tv bv : Value} (hc : cntL m.body ≤ 100000) (hin : ∀ x ∈ allL m.body, InI x) (w : World) (hm : MtAt S w m pv tv bv) :
  Calls Tryz.prog 39 #[mtV m pv tv bv] w (Back (.int .i64 (sizedL m.body)) w) := by
 have hX := alloc_bel w (.cells #[.string ⟨m.name.toArray⟩, pv, tv, .int .i64 m.prim, bv, .int .i64 m.at_] 28)
 have hY := alloc_bel (w.alloc (.cells #[.string ⟨m.name.toArray⟩, pv, tv, .int .i64 m.prim, bv, .int .i64 m.at_] 28)) (.cells #[.int .i64 15] 29)
 have hXY := hX.trans (hY.mono hX.size)
 have hB := Blk.made (T := 29) (cs := #[.int .i64 15]) (w.alloc (.cells #[.string ⟨m.name.toArray⟩, pv, tv, .int .i64 m.prim, bv, .int .i64 m.at_] 28))
 have hM := (Blk.made (T := 28) (cs := #[.string ⟨m.name.toArray⟩, pv, tv, .int .i64 m.prim, bv, .int .i64 m.at_]) w).alloc (.cells #[.int .i64 15] 29)
 have hz : (w.alloc (.cells #[.string ⟨m.name.toArray⟩, pv, tv, .int .i64 m.prim, bv, .int .i64 m.at_] 28)).heap.size = w.heap.size + 1 := by simp
 rw [hz] at hB
 have HC := Walk_any (m := m) (pv := pv) (tv := tv) (bv := bv) (sized_see (w.heap.size + 1) m.body hin) 15 _ hB (by simp) ((hm.body.mono (S' := fun b => ¬ b = w.heap.size + 1) (fun b _ hb => by omega)).bel hXY)
 have HD := fun (w' : World) (h : Below w.heap.size w w') => Depth_any (m := m) (pv := pv) (tv := tv) hc w' (hm.body.bel h)
 have hsz := sized_fold m.body
 rw [least_go] at HC
 dsimp only at HC hsz
 obtain ⟨e, he⟩ : ∃ e, (allL m.body).foldl leastF 15 = e := ⟨_, rfl⟩
 rw [he] at HC hsz
 obtain ⟨d, hd⟩ : ∃ d, depthL m.body = d := ⟨_, rfl⟩
 rw [hd] at HD hsz
 replace HC := Lib.hid HC
 replace HD := Lib.hid HD
 have HXY := Lib.hid hXY
 have HM := Lib.hid hM
 have HZ := Lib.hid hsz
 obtain ⟨pa, pc, rfl, -, -⟩ := hm.params.form
 obtain ⟨ta, tc, rfl, -, -⟩ := hm.temps.form
 obtain ⟨ba, bc, rfl, -, -⟩ := hm.body.form
 unfold mtV at HC HD ⊢
 obtain ⟨z, hz2⟩ : ∃ z : Int, sizedL m.body = z := ⟨_, rfl⟩
 rw [hz2] at HZ ⊢
 clear hm hX hY hXY hB hM hz hz2 hc hin he hd hsz
 go_enter Tryz.func39, Tryz.ntmps39
 go_wp2_with fail
 refine HC.out.mono ?_; rintro x w1 ⟨rfl, hi, hb⟩
 have hm1 := hb.blk HM.out (by omega)
 have c0 := hm1.c 0 _ rfl
 have c1 := hm1.c 1 _ rfl
 have c2 := hm1.c 2 _ rfl
 have c3 := hm1.c 3 _ rfl
 have c4 := hm1.c 4 _ rfl
 have c5 := hm1.c 5 _ rfl
 have HI := Lib.hid (show Blk 29 (w.heap.size + 1) #[.int .i64 e] w1 from hi)
 have HB := Lib.hid (HXY.out.trans (hb.bel (B := w.heap.size) (fun b h => by omega) HXY.out.size))
 clear hi hb hm1
 go_wp2_with fail
 refine (HD.out _ HB.out).mono ?_; rintro x w2 ⟨rfl, hb2⟩
 have hi2 := HI.out.below hb2 HI.out.lt
 have HI2 := Lib.hid hi2
 have d0 : w2.cell? ⟨w.heap.size + 1, 0, none⟩ = some (.int .i64 e) := hi2.c 0 _ rfl
 have df : ∀ i, w2.frozen? ⟨w.heap.size + 1, i, none⟩ = false := hi2.fz
 have hlt := hi2.lt
 have HB2 := Lib.hid (HB.out.trans (hb2.mono HB.out.size))
 clear hi2 hb2 c0 c1 c2 c3 c4 c5
 by_cases h40 : 40 < d
 · have hdd : decide ((40 : Int) < (d : Int)) = true := decide_eq_true (by omega)
   have hz := HZ.out
   rw [if_pos h40] at hz
   have HZ2 := Lib.hid hz
   clear hz
   by_cases h15 : min e 10 = 15
   · exfalso; omega
   · have hq : (min e 10 == 15) = false := beq_eq_false_iff_ne.2 h15
     go_wp2_with fail
     go_ret
     exact ⟨by rw [HZ2.out, if_neg h15]; rfl, HB2.out.setCell (p := ⟨w.heap.size + 1, 0, none⟩) (Nat.le_succ _) _⟩
 · have hdd : decide ((40 : Int) < (d : Int)) = false := decide_eq_false (by omega)
   have hz := HZ.out
   rw [if_neg h40] at hz
   have HZ2 := Lib.hid hz
   clear hz
   by_cases h15 : e = 15
   · subst h15
     go_wp2_with fail
     go_ret
     exact ⟨by rw [HZ2.out]; rfl, HB2.out⟩
   · have hq : (e == 15) = false := beq_eq_false_iff_ne.2 h15
     have HN := Lib.hid h15
     go_wp2_with fail
     go_ret
     exact ⟨by rw [HZ2.out, if_neg HN.out]; rfl, HB2.out⟩
end Tr
end Go.Proofs.YtbdgoimbddlcoaaGreatDoor
