/- Package tree, the walk: Walk, Depth, Count, sized. · Package tree, the walk: Check (printed by gen_trcheck.py, hdx.py). · Rows of nodes of one's own, with trees beneath. · The law's Few. · The law's Nodes. · The law's Own and Cut (printed by gen_trcut.py, hdx.py). · What the laws of chapter 10 lean on: a struct stored anew (printed by gen_trl1.py). -/
import Derived.Test.YtmmgfifpjifjnaaGreatDoorTrMa
import Derived.WalkSpells
import Derived.WalkLawsBesides
import Derived.Deep.DeepCutAuto
import Derived.Deep.AppendLies
set_option linter.unusedVariables false
namespace Go.Proofs.YtmmgfifpjifjnaaGreatDoor
open Go.RowKit
namespace Tr
open Bs Sm
theorem ret2' {a a' b b' : Value} (h : a = a') (h' : b = b') : Ending.returned (.tuple #[a, b]) = .returned (.tuple #[a', b']) := by rw [h, h']
theorem vint' {k : IntKind} {a b : Int} (h : a = b) : Value.int k a = Value.int k b := by rw [h]
set_option maxHeartbeats 400000 in
theorem of_in (n : Int) (w : World) (h : Inr n) :
  Calls Tryz.prog 77 #[.int .i64 n] w fun e w' => e = .returned (.tuple #[.int .u64 (wd n), .int .i64 0]) ∧ w = w' := by
 obtain ⟨h1, h2⟩ := h
 go_enter Tryz.func77, Tryz.ntmps77
 go_wp2
 go_ret2
 exact ⟨ret2' (vint' (or_one n)) rfl, rfl⟩
set_option maxHeartbeats 400000 in
theorem of_out (n : Int) (w : World) (h : ¬ Inr n) (h1 : -9223372036854775808 ≤ n) (h2 : n ≤ 9223372036854775807) :
  Calls Tryz.prog 77 #[.int .i64 n] w fun e w' => e = .returned (.tuple #[.int .u64 0, .int .i64 9]) ∧ w = w' := by
 unfold Inr at h
 by_cases h3 : n < -4611686018427387904
 · clear h
   go_enter Tryz.func77, Tryz.ntmps77
   go_wp2
   go_ret2
   exact ⟨rfl, rfl⟩
 have h4 : 4611686018427387903 < n := by omega
 clear h
 go_enter Tryz.func77, Tryz.ntmps77
 go_wp2
 go_ret2
 exact ⟨rfl, rfl⟩
def mtV (m : Mt) (pv tv bv : Value) : Value := .agg #[.string ⟨m.name.toArray⟩, pv, tv, .int .i64 m.prim, bv, .int .i64 m.at_]
structure MtAt (S : Nat → Prop) (w : World) (m : Mt) (pv tv bv : Value) : Prop where
 params : Rd S strV w pv m.params
 temps : Rd S strV w tv m.temps
 body : Tree S w bv m.body
theorem MtAt.bel {S : Nat → Prop} {w w' : World} {m : Mt} {pv tv bv : Value} (h : MtAt S w m pv tv bv) (hb : Below w.heap.size w w') : MtAt S w' m pv tv bv := ⟨h.params.below hb, h.temps.below hb, h.body.bel hb⟩
theorem MtAt.mono {S S' : Nat → Prop} {w : World} {m : Mt} {pv tv bv : Value} (h : MtAt S w m pv tv bv) (hs : ∀ b, S b → b < w.heap.size → S' b) : MtAt S' w m pv tv bv := ⟨h.params.mono hs, h.temps.mono hs, h.body.mono hs⟩
theorem MtAt.kp {S : Nat → Prop} {w w' : World} {m : Mt} {pv tv bv : Value} (h : MtAt S w m pv tv bv) (hb : Kp S w w') : MtAt S w' m pv tv bv := ⟨h.params.kp hb, h.temps.kp hb, h.body.kp hb⟩
theorem Walk_any {σ : Type} {X : Nat → Prop} {kf : Nat} {cap : Array Value} {Inv : σ → World → Prop} {stp : Nd → σ → Bool × σ} {B : Nat} {m : Mt} {pv tv bv : Value} (hS : See X kf cap Inv stp B m.body) (s : σ) (w : World)
  (hI : Inv s w) (hB : B ≤ w.heap.size) (hl : Tree (fun b => ¬ X b) w bv m.body) :
  Calls Tryz.prog 75 #[mtV m pv tv bv, .func (.func kf) #[] cap] w (fun e w' => e = .returned (.bool (goW stp (allL m.body) s).1) ∧ Inv (goW stp (allL m.body) s).2 w' ∧ But X w w') := by
 have hX := alloc_bel w (.cells #[.string ⟨m.name.toArray⟩, pv, tv, .int .i64 m.prim, bv, .int .i64 m.at_] 33)
 have HC := walk_any hS bv s _ (hS.keep s _ _ hI hX) (Nat.le_trans hB hX.size) (hl.bel hX)
 obtain ⟨a, c, rfl, -, -⟩ := hl.form
 unfold mtV
 have HC := Lib.hid HC
 have HX := Lib.hid hX
 clear hS hI hl hX
 go_enter Tryz.func75, Tryz.ntmps75
 go_wp2_with fail
 refine HC.out.mono ?_; rintro e w1 ⟨rfl, hi, hb⟩
 have HI := Lib.hid hi
 have HB := Lib.hid hb
 clear hi hb
 go_wp2_with fail
 go_ret
 exact ⟨by simp, HI.out, (But.of HX.out).trans HB.out⟩
theorem Depth_any {S : Nat → Prop} {m : Mt} {pv tv bv : Value} (hc : cntL m.body ≤ 100000) (w : World) (hl : Tree S w bv m.body) :
  Calls Tryz.prog 78 #[mtV m pv tv bv] w (Back (.int .i64 (depthL m.body : Int)) w) := by
 have hX := alloc_bel w (.cells #[.string ⟨m.name.toArray⟩, pv, tv, .int .i64 m.prim, bv, .int .i64 m.at_] 33)
 have HC := Lib.hid (depth_any m.body hc bv _ ((hl.mono (fun _ _ _ => trivial)).bel hX))
 obtain ⟨a, c, rfl, -, -⟩ := hl.form
 unfold mtV
 have HX := Lib.hid hX
 clear hl hX
 go_enter Tryz.func78, Tryz.ntmps78
 go_wp2_with fail
 refine HC.out.mono ?_; rintro e w1 ⟨rfl, hb⟩
 go_wp2_with fail
 go_ret
 exact ⟨by simp, HX.out.trans (hb.mono HX.out.size)⟩
theorem ent69 : Ent 76 := enters_of Tryz.func76 (by kernel_rfl) rfl
def leastS (x : Nd) (e : Int) : Bool × Int := (true, leastF e x)
theorem least_go : ∀ (l : List Nd) (e : Int), goW leastS l e = (true, l.foldl leastF e)
 | [], e => rfl
 | x :: l, e => by
  rw [goW, List.foldl_cons]
  exact least_go l (leastF e x)
set_option maxRecDepth 100000 in
set_option maxHeartbeats 3200000 in
theorem sized_see (k : Nat) (l : List Nd) (hl : ∀ x ∈ allL l, InI x) : See (fun b => b = k) 76 #[.pointer (some ⟨k, 0, none⟩)] (fun (n : Int) w => Blk 38 k #[.int .i64 n] w) leastS (k + 1) l := by
 refine ⟨ent69, fun b hb => by omega, fun s w w' h hb => h.below hb h.lt, fun x hx ka kc na nc s w hI hB hk hn => ?_⟩
 have hnum := hl x hx
 have HI := Lib.hid (show Blk 38 k #[.int .i64 s] w from hI)
 have hX := alloc_bel w (.cells #[.int .i64 x.kind, .string ⟨x.name.toArray⟩, .int .i64 x.num, .slice ka x.kids.length kc, .slice na x.names.length nc, .int .i64 x.at_] 94)
 have HX := Lib.hid hX
 have c0 : w.cell? ⟨k, 0, none⟩ = some (.int .i64 s) := hI.c 0 _ rfl
 have cf : ∀ i, w.frozen? ⟨k, i, none⟩ = false := hI.fz
 have hlt := hI.lt
 have n1 : ¬ k = w.heap.size := by omega
 have n2 : ¬ w.heap.size = k := by omega
 have hOf : ∃ a b : Int, (b != 0) = (decide (x.num < -4611686018427387904) || decide (4611686018427387903 < x.num)) ∧ ∀ w', Calls Tryz.prog 77 #[.int .i64 x.num] w' (fun e w'' => e = .returned (.tuple #[.int .u64 a, .int .i64 b]) ∧ w' = w'') := by
  by_cases h : Inr x.num
  · refine ⟨_, 0, ?_, fun w' => of_in x.num w' h⟩
    obtain ⟨h1, h2⟩ := h
    rw [decide_eq_false (by omega), decide_eq_false (by omega)]; rfl
  refine ⟨0, 9, ?_, fun w' => of_out x.num w' h hnum.1 hnum.2⟩
  unfold Inr at h
  by_cases h3 : x.num < -4611686018427387904
  · rw [decide_eq_true h3]; rfl
  rw [decide_eq_true (p := 4611686018427387903 < x.num) (by omega)]; simp
 obtain ⟨oa, ob, hob, hOf⟩ := hOf
 unfold ndV
 suffices H : Calls Tryz.prog 76 #[.agg #[.int .i64 x.kind, .string ⟨x.name.toArray⟩, .int .i64 x.num, .slice ka x.kids.length kc, .slice na x.names.length nc, .int .i64 x.at_], .pointer (some ⟨k, 0, none⟩)] w
  (fun e w' => e = .returned (.bool true) ∧ Blk 38 k #[.int .i64 (leastF s x)] w' ∧ But (fun b => b = k) w w') from H
 have hlen : (⟨x.name.toArray⟩ : ByteArray).size = x.name.length := rfl
 obtain ⟨K, hK⟩ : ∃ K, x.kind = K := ⟨_, rfl⟩
 obtain ⟨N, hN⟩ : ∃ K, x.name.length = K := ⟨_, rfl⟩
 have hbig : bigB x = ((K == 2 && decide (4096 < N)) || (K == 3 && decide (64 < N))) := by unfold bigB; rw [hK, hN]
 have hover : overB x = ((ob != 0) || x.num == -4611686018427387904) := by unfold overB; rw [hob]
 obtain ⟨sx, hsx⟩ : ∃ s : ByteArray, (⟨x.name.toArray⟩ : ByteArray) = s := ⟨_, rfl⟩
 have hsz : sx.size = N := by rw [← hsx, hlen, hN]
 rw [hK, hsx]
 have HOf := Lib.hid hOf
 clear hI hk hn hOf hX hK hN hlen hsx hl hx hob hnum
 by_cases h1 : K = 2 ∧ 4096 < N
 · have HB : Hid (leastF s x = min s 2) := Lib.hid (by unfold leastF; rw [hbig, h1.1, decide_eq_true h1.2]; rfl)
   obtain ⟨rfl, h2⟩ := h1
   have hd : decide ((4096 : Int) < (N : Int)) = true := decide_eq_true (by omega)
   clear hbig hover
   go_enter Tryz.func76, Tryz.ntmps76
   go_wp2_with fail
   refine (HOf.out _).mono ?_; rintro e w1 ⟨rfl, rfl⟩
   go_wp2_with fail
   go_ret
   exact ⟨by simp, by rw [HB.out]; exact (HI.out.set_ 0 (.int .i64 (min s 2)) #[.int .i64 (min s 2)] rfl).alloc _, ((But.refl (fun b => b = k) w).set_ (k := k) rfl 0 _).alloc _⟩
 by_cases h3 : K = 3 ∧ 64 < N
 · have HB : Hid (leastF s x = min s 2) := Lib.hid (by unfold leastF; rw [hbig, h3.1, decide_eq_true h3.2]; simp)
   obtain ⟨rfl, h2⟩ := h3
   have hd : decide ((64 : Int) < (N : Int)) = true := decide_eq_true (by omega)
   clear hbig hover h1
   go_enter Tryz.func76, Tryz.ntmps76
   go_wp2_with fail
   refine (HOf.out _).mono ?_; rintro e w1 ⟨rfl, rfl⟩
   go_wp2_with fail
   go_ret
   exact ⟨by simp, by rw [HB.out]; exact (HI.out.set_ 0 (.int .i64 (min s 2)) #[.int .i64 (min s 2)] rfl).alloc _, ((But.refl (fun b => b = k) w).set_ (k := k) rfl 0 _).alloc _⟩
 have hnb : bigB x = false := by
  rw [hbig]
  by_cases a : K = 2
  · have : ¬ 4096 < N := fun h => h1 ⟨a, h⟩
    rw [decide_eq_false this, a]; rfl
  by_cases b : K = 3
  · have : ¬ 64 < N := fun h => h3 ⟨b, h⟩
    rw [decide_eq_false this, b]; simp
  rw [beq_eq_false_iff_ne.2 a, beq_eq_false_iff_ne.2 b]; rfl
 have hle : leastF s x = if ((ob != 0) || x.num == -4611686018427387904) = true then min s 9 else s := by unfold leastF; rw [hnb, hover]; rfl
 clear hbig hnb hover
 have hcase : (K = 2 ∧ decide ((4096 : Int) < (N : Int)) = false) ∨ (K = 3 ∧ decide ((64 : Int) < (N : Int)) = false) ∨ ((K == 2) = false ∧ (K == 3) = false) := by
  by_cases a : K = 2
  · exact .inl ⟨a, decide_eq_false (fun h => h1 ⟨a, by omega⟩)⟩
  by_cases b : K = 3
  · exact .inr (.inl ⟨b, decide_eq_false (fun h => h3 ⟨b, by omega⟩)⟩)
  exact .inr (.inr ⟨beq_eq_false_iff_ne.2 a, beq_eq_false_iff_ne.2 b⟩)
 clear h1 h3
 cases ho : (ob != 0) with
 | true =>
  have HB : Hid (leastF s x = min s 9) := Lib.hid (by rw [hle, ho]; rfl)
  clear hle
  rcases hcase with ⟨rfl, hd⟩ | ⟨rfl, hd⟩ | ⟨b2, b3⟩
  all_goals (
   go_enter Tryz.func76, Tryz.ntmps76
   go_wp2_with fail
   refine (HOf.out _).mono ?_; rintro e w1 ⟨rfl, rfl⟩
   go_wp2_with fail
   go_ret
   exact ⟨by simp, by rw [HB.out]; exact (HI.out.set_ 0 (.int .i64 (min s 9)) #[.int .i64 (min s 9)] rfl).alloc _, ((But.refl (fun b => b = k) w).set_ (k := k) rfl 0 _).alloc _⟩)
 | false =>
  cases hu : (x.num == -4611686018427387904) with
  | true =>
   have HB : Hid (leastF s x = min s 9) := Lib.hid (by rw [hle, ho, hu]; rfl)
   clear hle
   rcases hcase with ⟨rfl, hd⟩ | ⟨rfl, hd⟩ | ⟨b2, b3⟩
   all_goals (
    go_enter Tryz.func76, Tryz.ntmps76
    go_wp2_with fail
    refine (HOf.out _).mono ?_; rintro e w1 ⟨rfl, rfl⟩
    go_wp2_with fail
    go_ret
    exact ⟨by simp, by rw [HB.out]; exact (HI.out.set_ 0 (.int .i64 (min s 9)) #[.int .i64 (min s 9)] rfl).alloc _, ((But.refl (fun b => b = k) w).set_ (k := k) rfl 0 _).alloc _⟩)
  | false =>
   have HB : Hid (leastF s x = s) := Lib.hid (by rw [hle, ho, hu]; rfl)
   clear hle
   rcases hcase with ⟨rfl, hd⟩ | ⟨rfl, hd⟩ | ⟨b2, b3⟩
   all_goals (
    go_enter Tryz.func76, Tryz.ntmps76
    go_wp2_with fail
    refine (HOf.out _).mono ?_; rintro e w1 ⟨rfl, rfl⟩
    go_wp2_with fail
    go_ret
    exact ⟨by simp, by rw [HB.out]; exact HI.out.alloc _, (But.refl (fun b => b = k) w).alloc _⟩)
set_option maxRecDepth 100000 in
set_option maxHeartbeats 3200000 in
theorem sized_any {S : Nat → Prop} {m : Mt} {pv tv bv : Value} (hc : cntL m.body ≤ 100000) (hin : ∀ x ∈ allL m.body, InI x) (w : World) (hm : MtAt S w m pv tv bv) :
  Calls Tryz.prog 46 #[mtV m pv tv bv] w (Back (.int .i64 (sizedL m.body)) w) := by
 have hX := alloc_bel w (.cells #[.string ⟨m.name.toArray⟩, pv, tv, .int .i64 m.prim, bv, .int .i64 m.at_] 33)
 have hY := alloc_bel (w.alloc (.cells #[.string ⟨m.name.toArray⟩, pv, tv, .int .i64 m.prim, bv, .int .i64 m.at_] 33)) (.cells #[.int .i64 15] 38)
 have hXY := hX.trans (hY.mono hX.size)
 have hB := Blk.made (T := 38) (cs := #[.int .i64 15]) (w.alloc (.cells #[.string ⟨m.name.toArray⟩, pv, tv, .int .i64 m.prim, bv, .int .i64 m.at_] 33))
 have hM := (Blk.made (T := 33) (cs := #[.string ⟨m.name.toArray⟩, pv, tv, .int .i64 m.prim, bv, .int .i64 m.at_]) w).alloc (.cells #[.int .i64 15] 38)
 have hz : (w.alloc (.cells #[.string ⟨m.name.toArray⟩, pv, tv, .int .i64 m.prim, bv, .int .i64 m.at_] 33)).heap.size = w.heap.size + 1 := by simp
 rw [hz] at hB
 have HC := Walk_any (m := m) (pv := pv) (tv := tv) (bv := bv) (sized_see (w.heap.size + 1) m.body hin) 15 _ hB (by simp) ((hm.body.mono (S' := fun b => ¬ b = w.heap.size + 1) (fun b _ hb => by omega)).bel hXY)
 have HD := fun (w' : World) (h : Below w.heap.size w w') => Depth_any (m := m) (pv := pv) (tv := tv) hc w' (hm.body.bel h)
 have hsz := sized_fold m.body
 rw [least_go] at HC
 dsimp only at HC hsz
 obtain ⟨e, he⟩ : ∃ e, (allL m.body).foldl leastF 15 = e := ⟨_, rfl⟩
 rw [he] at HC hsz
 obtain ⟨d, hd⟩ : ∃ d, depthL m.body = d := ⟨_, rfl⟩
 rw [hd] at HD hsz
 replace HC := Lib.hid HC
 replace HD := Lib.hid HD
 have HXY := Lib.hid hXY
 have HM := Lib.hid hM
 have HZ := Lib.hid hsz
 obtain ⟨pa, pc, rfl, -, -⟩ := hm.params.form
 obtain ⟨ta, tc, rfl, -, -⟩ := hm.temps.form
 obtain ⟨ba, bc, rfl, -, -⟩ := hm.body.form
 unfold mtV at HC HD ⊢
 obtain ⟨z, hz2⟩ : ∃ z : Int, sizedL m.body = z := ⟨_, rfl⟩
 rw [hz2] at HZ ⊢
 clear hm hX hY hXY hB hM hz hz2 hc hin he hd hsz
 go_enter Tryz.func46, Tryz.ntmps46
 go_wp2_with fail
 refine HC.out.mono ?_; rintro x w1 ⟨rfl, hi, hb⟩
 have hm1 := hb.blk HM.out (by omega)
 have c0 := hm1.c 0 _ rfl
 have c1 := hm1.c 1 _ rfl
 have c2 := hm1.c 2 _ rfl
 have c3 := hm1.c 3 _ rfl
 have c4 := hm1.c 4 _ rfl
 have c5 := hm1.c 5 _ rfl
 have HI := Lib.hid (show Blk 38 (w.heap.size + 1) #[.int .i64 e] w1 from hi)
 have HB := Lib.hid (HXY.out.trans (hb.bel (B := w.heap.size) (fun b h => by omega) HXY.out.size))
 clear hi hb hm1
 go_wp2_with fail
 refine (HD.out _ HB.out).mono ?_; rintro x w2 ⟨rfl, hb2⟩
 have hi2 := HI.out.below hb2 HI.out.lt
 have HI2 := Lib.hid hi2
 have d0 : w2.cell? ⟨w.heap.size + 1, 0, none⟩ = some (.int .i64 e) := hi2.c 0 _ rfl
 have df : ∀ i, w2.frozen? ⟨w.heap.size + 1, i, none⟩ = false := hi2.fz
 have hlt := hi2.lt
 have HB2 := Lib.hid (HB.out.trans (hb2.mono HB.out.size))
 clear hi2 hb2 c0 c1 c2 c3 c4 c5
 by_cases h40 : 40 < d
 · have hdd : decide ((40 : Int) < (d : Int)) = true := decide_eq_true (by omega)
   have hz := HZ.out
   rw [if_pos h40] at hz
   have HZ2 := Lib.hid hz
   clear hz
   by_cases h15 : min e 10 = 15
   · exfalso; omega
   have hq : (min e 10 == 15) = false := beq_eq_false_iff_ne.2 h15
   go_wp2_with fail
   go_ret
   exact ⟨by rw [HZ2.out, if_neg h15]; rfl, HB2.out.setCell (p := ⟨w.heap.size + 1, 0, none⟩) (Nat.le_succ _) _⟩
 have hdd : decide ((40 : Int) < (d : Int)) = false := decide_eq_false (by omega)
 have hz := HZ.out
 rw [if_neg h40] at hz
 have HZ2 := Lib.hid hz
 clear hz
 by_cases h15 : e = 15
 · subst h15
   go_wp2_with fail
   go_ret
   exact ⟨by rw [HZ2.out]; rfl, HB2.out⟩
 have hq : (e == 15) = false := beq_eq_false_iff_ne.2 h15
 have HN := Lib.hid h15
 go_wp2_with fail
 go_ret
 exact ⟨by rw [HZ2.out, if_neg HN.out]; rfl, HB2.out⟩
end Tr
end Go.Proofs.YtmmgfifpjifjnaaGreatDoor
namespace Go.Proofs.YtmmgfifpjifjnaaGreatDoor
open Go.RowKit
namespace Tr
open Bs Sm
theorem ent25 : Ent 38 := enters_of Tryz.func38 (by kernel_rfl) rfl
theorem ent31 : Ent 44 := enters_of Tryz.func44 (by kernel_rfl) rfl
theorem cont_other {S : Nat → Prop} (v : Value) (l : List Bytes) (w : World) (hl : Rd S strV w v l) :
  Calls Tryz.prog 41 #[v, .func (.func 38) #[] #[]] w (Back (.bool (!l.all isName)) w) := by
 have H := contS_any 38 #[] (fun s => !isName s) v l w w hl (Below.refl _ _) ent25 (fun s w' _ => unname2_any s w')
 rwa [← List.not_all_eq_any_not] at H
theorem check2_any (x : Nd) (w : World) (kv nv : Value) (hk : Tree (fun _ => True) w kv x.kids) (hn : Rd (fun _ => True) strV w nv x.names) : Calls Tryz.prog 44 #[ndV x kv nv] w (Back (.bool (fitsB x false)) w) := by
 obtain ⟨ka, kc, rfl, -, -⟩ := hk.form
 obtain ⟨na, nc, rfl, -, -⟩ := hn.form
 have hX := alloc_bel w (.cells #[.int .i64 x.kind, .string ⟨x.name.toArray⟩, .int .i64 x.num, .slice ka x.kids.length kc, .slice na x.names.length nc, .int .i64 x.at_] 94)
 have HC := fits_any x false _ _ _ (hk.bel hX) (hn.below hX)
 unfold ndV at HC ⊢
 have HC := Lib.hid HC
 have HX := Lib.hid hX
 obtain ⟨q, hq⟩ : ∃ q, fitsB x false = q := ⟨_, rfl⟩
 rw [hq] at HC ⊢
 clear hk hn hX hq
 go_enter Tryz.func44, Tryz.ntmps44
 go_wp2_with fail
 refine HC.out.mono ?_; rintro e w1 ⟨rfl, hb⟩
 go_wp2_with fail
 go_ret
 exact ⟨by simp, HX.out.trans (hb.mono HX.out.size)⟩
theorem fits_all0 (l : List Nd) : l.all (fun x => fitsB x false) = fitsK false false l := by
 induction l with
 | nil => rw [fitsK_nil]; rfl
 | cons x l ih => rw [List.all_cons, ih, fitsK_cons]
theorem all_fits (v : Value) (l : List Nd) (w : World) (hl : Tree (fun _ => True) w v l) : Calls Tryz.prog 43 #[v, .func (.func 44) #[] #[]] w (Back (.bool (fitsK false false l)) w) := by
 have H := all_any 44 #[] (fun x => fitsB x false) v l w w hl (Below.refl _ _) ⟨ent31, fun x kv nv w' _ _ hk hn => check2_any x w' kv nv hk hn⟩
 rwa [fits_all0] at H
set_option maxRecDepth 100000 in
set_option maxHeartbeats 12800000 in
theorem Check_any (m : Mt) (pv tv bv : Value) (hc : cntL m.body ≤ 100000) (hin : ∀ x ∈ allL m.body, InI x) (w : World) (hm : MtAt (fun _ => True) w m pv tv bv) :
  Calls Tryz.prog 22 #[mtV m pv tv bv] w (Back (.int .i64 (checkM m)) w) := by
 have HAr := fun w' => Arity_at m.name w'
 unfold strV at HAr
 have HP := fun (w' : World) (h : Below w.heap.size w w') => cont_other pv m.params w' (hm.params.below h)
 have HT := fun (w' : World) (h : Below w.heap.size w w') => cont_other tv m.temps w' (hm.temps.below h)
 have HB := fun (w' : World) (h : Below w.heap.size w w') => statements_any bv m.body w' (hm.body.bel h)
 have HF := fun (w' : World) (h : Below w.heap.size w w') => all_fits bv m.body w' (hm.body.bel h)
 have HZ := fun (w' : World) (h : Below w.heap.size w w') => sized_any (m := m) (pv := pv) (tv := tv) (bv := bv) hc hin w' (hm.bel h)
 obtain ⟨pa, pc, rfl, hp1, hp2⟩ := hm.params.form
 obtain ⟨ta, tc, rfl, -, -⟩ := hm.temps.form
 obtain ⟨ba, bc, rfl, -, -⟩ := hm.body.form
 unfold maxLen at hp2
 unfold checkM headB
 unfold mtV at HZ ⊢
 obtain ⟨ar, har⟩ : ∃ q, Lx.arityL m.name = q := ⟨_, rfl⟩
 obtain ⟨q1, hq1⟩ : ∃ q, m.params.all isName = q := ⟨_, rfl⟩
 obtain ⟨q2, hq2⟩ : ∃ q, m.temps.all isName = q := ⟨_, rfl⟩
 obtain ⟨q3, hq3⟩ : ∃ q, bodyB m.body = q := ⟨_, rfl⟩
 obtain ⟨q4, hq4⟩ : ∃ q, fitsK false false m.body = q := ⟨_, rfl⟩
 obtain ⟨sz, hsz⟩ : ∃ q, sizedL m.body = q := ⟨_, rfl⟩
 obtain ⟨pl, hpl⟩ : ∃ q, m.params.length = q := ⟨_, rfl⟩
 obtain ⟨tl, htl⟩ : ∃ q, m.temps.length = q := ⟨_, rfl⟩
 obtain ⟨bl, hbl⟩ : ∃ q, m.body.length = q := ⟨_, rfl⟩
 have hrange := arity_in m.name
 rw [har] at HAr hrange ⊢
 rw [hq1] at HP ⊢
 rw [hq2] at HT ⊢
 rw [hq3] at HB ⊢
 rw [hq4] at HF ⊢
 rw [hsz] at HZ ⊢
 rw [hpl] at HP HZ hp1 ⊢
 rw [htl] at HT HZ ⊢
 rw [hbl] at HB HF HZ ⊢
 obtain ⟨Q, hQ⟩ : ∃ Q : Int, (if (decide (ar = (pl : Int)) && decide (0 ≤ m.prim) && decide (m.prim ≤ 999) && q1 && q2 && q3) = false then (3 : Int) else if q4 = false then 3 else sz) = Q := ⟨_, rfl⟩
 rw [hQ]
 have HQ := Lib.hid hQ
 replace HAr := Lib.hid HAr
 replace HP := Lib.hid HP
 replace HT := Lib.hid HT
 replace HB := Lib.hid HB
 replace HF := Lib.hid HF
 replace HZ := Lib.hid HZ
 have HM := Lib.hid (Blk.made (T := 33) (cs := #[.string ⟨m.name.toArray⟩, .slice pa pl pc, .slice ta tl tc, .int .i64 m.prim, .slice ba bl bc, .int .i64 m.at_]) w)
 clear hm hc hin har hq1 hq2 hq3 hq4 hsz hpl htl hbl hQ
 go_enter Tryz.func22, Tryz.ntmps22
 go_upto_region 2 with fail
 have hS : ∀ v, Below (w.heap.size + 1) (w.alloc (.cells #[.string ⟨m.name.toArray⟩, .slice pa pl pc, .slice ta tl tc, .int .i64 m.prim, .slice ba bl bc, .int .i64 m.at_] 33)) v → (v.cell? ⟨w.heap.size, 0, none⟩ = some (.string ⟨m.name.toArray⟩) ∧ v.cell? ⟨w.heap.size, 1, none⟩ = some (.slice pa pl pc) ∧ v.cell? ⟨w.heap.size, 2, none⟩ = some (.slice ta tl tc) ∧ v.cell? ⟨w.heap.size, 3, none⟩ = some (.int .i64 m.prim) ∧ v.cell? ⟨w.heap.size, 4, none⟩ = some (.slice ba bl bc) ∧ v.cell? ⟨w.heap.size, 5, none⟩ = some (.int .i64 m.at_)) := fun v hv =>
  have h := HM.out.below hv (by omega)
  ⟨h.c 0 _ rfl, h.c 1 _ rfl, h.c 2 _ rfl, h.c 3 _ rfl, h.c 4 _ rfl, h.c 5 _ rfl⟩
 have hz : (w.alloc (.cells #[.string ⟨m.name.toArray⟩, .slice pa pl pc, .slice ta tl tc, .int .i64 m.prim, .slice ba bl bc, .int .i64 m.at_] 33)).heap.size = w.heap.size + 1 := by simp
 obtain ⟨W0, hW0⟩ : ∃ W, w.alloc (.cells #[.string ⟨m.name.toArray⟩, .slice pa pl pc, .slice ta tl tc, .int .i64 m.prim, .slice ba bl bc, .int .i64 m.at_] 33) = W := ⟨_, rfl⟩
 rw [hW0] at hS hz ⊢
 have Hb0 : Hid (Below w.heap.size w W0) := Lib.hid (by rw [← hW0]; exact alloc_bel _ _)
 clear hW0 HM
 refine wp_region_noPanic ?_
 refine Hd.start (fun v => v.cell? ⟨w.heap.size, 0, none⟩ = some (.string ⟨m.name.toArray⟩) ∧ v.cell? ⟨w.heap.size, 1, none⟩ = some (.slice pa pl pc) ∧ v.cell? ⟨w.heap.size, 2, none⟩ = some (.slice ta tl tc) ∧ v.cell? ⟨w.heap.size, 3, none⟩ = some (.int .i64 m.prim) ∧ v.cell? ⟨w.heap.size, 4, none⟩ = some (.slice ba bl bc) ∧ v.cell? ⟨w.heap.size, 5, none⟩ = some (.int .i64 m.at_)) (by kernel_rfl) (hS _ (Below.refl _ W0).drew) (fun hH0 => ?_)
 refine Hd.tk 0 1 hH0 ?_
 refine Hd.tk 1 2 hH0 ?_
 refine Hd.tk 3 4 hH0 ?_
 refine Hd.tk 4 5 hH0 ?_
 refine Hd.tk 5 6 hH0 ?_
 refine Hd.on 2 (fun K hK => ?_)
 go_simp
 refine (HAr.out _).mono ?_; rintro e w1 ⟨rfl, hb1⟩
 have hb1' : Below (w.heap.size + 1) W0 w1 := (Below.refl _ W0).drew.trans (hb1.mono (by simp [hz]))
 have HB1 := Lib.hid hb1'
 clear hb1 hb1'
 go_wp2_with fail
 refine hK.out _ _ (hS _ HB1.out) (fun hH1 => ?_)
 clear hK K
 try simp only [Act.put, Hd.sa, Hd.sz, Hd.ss]
 by_cases h1 : ar = (pl : Int)
 rotate_left 1
 · have HE : Hid ((decide (ar = (pl : Int)) && decide (0 ≤ m.prim) && decide (m.prim ≤ 999) && q1 && q2 && q3) = false) := Lib.hid (by rw [decide_eq_false h1]; rfl)
   have hne : (ar != (pl : Int)) = true := by simpa using h1
   clear HP HT HB HF HZ
   refine Hd.tk 6 7 hH1 ?_
   refine Hd.tk 7 8 hH1 ?_
   refine Hd.sk 8 9 hH1 ?_
   refine Hd.sk 9 10 hH1 ?_
   refine Hd.sk 10 11 hH1 ?_
   refine Hd.tk 11 12 hH1 ?_
   refine Hd.tk 12 13 hH1 ?_
   refine Hd.sk 13 14 hH1 ?_
   refine Hd.sk 14 15 hH1 ?_
   refine Hd.sk 15 16 hH1 ?_
   refine Hd.tk 16 17 hH1 ?_
   refine Hd.tk 17 18 hH1 ?_
   refine Hd.sk 18 19 hH1 ?_
   refine Hd.sk 19 21 hH1 ?_
   refine Hd.sk 20 21 hH1 ?_
   refine Hd.sk 21 22 hH1 ?_
   refine Hd.tk 22 23 hH1 ?_
   refine Hd.tk 23 24 hH1 ?_
   refine Hd.sk 24 25 hH1 ?_
   refine Hd.sk 25 27 hH1 ?_
   refine Hd.sk 26 27 hH1 ?_
   refine Hd.sk 27 28 hH1 ?_
   refine Hd.tk 28 29 hH1 ?_
   refine Hd.tk 29 30 hH1 ?_
   refine Hd.sk 30 31 hH1 ?_
   refine Hd.sk 31 32 hH1 ?_
   refine Hd.sk 32 33 hH1 ?_
   refine Hd.sk 33 34 hH1 ?_
   refine Hd.la 34 (fun K hK => ?_)
   go_simp
   refine hK.out _ _ ?_
   clear hK K
   try simp only [Act.put, Hd.sa, Hd.sz, Hd.ss]
   simp only [NoPanic]
   clear hS
   go_wp2_with fail
   go_ret
   exact ⟨by rw [← HQ.out, HE.out]; rfl, Hb0.out.trans (HB1.out.mono (by omega))⟩
 have hne : (ar != (pl : Int)) = false := by simpa using h1
 have hE1 := decide_eq_true h1
 have HE1 := Lib.hid hE1
 clear h1 hE1
 refine Hd.tk 6 7 hH1 ?_
 refine Hd.tk 7 8 hH1 ?_
 refine Hd.tk 8 9 hH1 ?_
 refine Hd.tk 9 10 hH1 ?_
 by_cases h2 : 0 ≤ m.prim
 rotate_left 1
 · have HE : Hid ((decide (ar = (pl : Int)) && decide (0 ≤ m.prim) && decide (m.prim ≤ 999) && q1 && q2 && q3) = false) := Lib.hid (by rw [decide_eq_false h2]; simp)
   have hlt0 : decide (m.prim < 0) = true := decide_eq_true (by omega)
   clear HP HT HB HF HZ
   refine Hd.tk 10 11 hH1 ?_
   refine Hd.tk 11 12 hH1 ?_
   refine Hd.tk 12 13 hH1 ?_
   refine Hd.sk 13 14 hH1 ?_
   refine Hd.sk 14 15 hH1 ?_
   refine Hd.sk 15 16 hH1 ?_
   refine Hd.tk 16 17 hH1 ?_
   refine Hd.tk 17 18 hH1 ?_
   refine Hd.sk 18 19 hH1 ?_
   refine Hd.sk 19 21 hH1 ?_
   refine Hd.sk 20 21 hH1 ?_
   refine Hd.sk 21 22 hH1 ?_
   refine Hd.tk 22 23 hH1 ?_
   refine Hd.tk 23 24 hH1 ?_
   refine Hd.sk 24 25 hH1 ?_
   refine Hd.sk 25 27 hH1 ?_
   refine Hd.sk 26 27 hH1 ?_
   refine Hd.sk 27 28 hH1 ?_
   refine Hd.tk 28 29 hH1 ?_
   refine Hd.tk 29 30 hH1 ?_
   refine Hd.sk 30 31 hH1 ?_
   refine Hd.sk 31 32 hH1 ?_
   refine Hd.sk 32 33 hH1 ?_
   refine Hd.sk 33 34 hH1 ?_
   refine Hd.la 34 (fun K hK => ?_)
   go_simp
   refine hK.out _ _ ?_
   clear hK K
   try simp only [Act.put, Hd.sa, Hd.sz, Hd.ss]
   simp only [NoPanic]
   clear hS
   go_wp2_with fail
   go_ret
   exact ⟨by rw [← HQ.out, HE.out]; rfl, Hb0.out.trans (HB1.out.mono (by omega))⟩
 have hlt0 : decide (m.prim < 0) = false := decide_eq_false (by omega)
 have HE2 := Lib.hid (decide_eq_true h2)
 refine Hd.tk 10 11 hH1 ?_
 refine Hd.tk 11 12 hH1 ?_
 refine Hd.tk 12 13 hH1 ?_
 refine Hd.tk 13 14 hH1 ?_
 refine Hd.tk 14 15 hH1 ?_
 by_cases h3 : m.prim ≤ 999
 rotate_left 1
 · have HE : Hid ((decide (ar = (pl : Int)) && decide (0 ≤ m.prim) && decide (m.prim ≤ 999) && q1 && q2 && q3) = false) := Lib.hid (by rw [decide_eq_false h3]; simp)
   have hlt9 : decide (999 < m.prim) = true := decide_eq_true (by omega)
   clear HP HT HB HF HZ
   refine Hd.tk 15 16 hH1 ?_
   refine Hd.tk 16 17 hH1 ?_
   refine Hd.tk 17 18 hH1 ?_
   refine Hd.sk 18 19 hH1 ?_
   refine Hd.sk 19 21 hH1 ?_
   refine Hd.sk 20 21 hH1 ?_
   refine Hd.sk 21 22 hH1 ?_
   refine Hd.tk 22 23 hH1 ?_
   refine Hd.tk 23 24 hH1 ?_
   refine Hd.sk 24 25 hH1 ?_
   refine Hd.sk 25 27 hH1 ?_
   refine Hd.sk 26 27 hH1 ?_
   refine Hd.sk 27 28 hH1 ?_
   refine Hd.tk 28 29 hH1 ?_
   refine Hd.tk 29 30 hH1 ?_
   refine Hd.sk 30 31 hH1 ?_
   refine Hd.sk 31 32 hH1 ?_
   refine Hd.sk 32 33 hH1 ?_
   refine Hd.sk 33 34 hH1 ?_
   refine Hd.la 34 (fun K hK => ?_)
   go_simp
   refine hK.out _ _ ?_
   clear hK K
   try simp only [Act.put, Hd.sa, Hd.sz, Hd.ss]
   simp only [NoPanic]
   clear hS
   go_wp2_with fail
   go_ret
   exact ⟨by rw [← HQ.out, HE.out]; rfl, Hb0.out.trans (HB1.out.mono (by omega))⟩
 have hlt9 : decide (999 < m.prim) = false := decide_eq_false (by omega)
 have HE3 := Lib.hid (decide_eq_true h3)
 have HQ2 : Hid ((if (q1 && q2 && q3) = false then (3 : Int) else if q4 = false then 3 else sz) = Q) := Lib.hid (by rw [← HQ.out, HE1.out, HE2.out, HE3.out]; simp only [Bool.true_and])
 clear HQ HE1 HE2 HE3
 have HQ := HQ2
 clear HQ2
 refine Hd.tk 15 16 hH1 ?_
 refine Hd.tk 16 17 hH1 ?_
 refine Hd.tk 17 18 hH1 ?_
 refine Hd.tk 18 19 hH1 ?_
 refine Hd.tk 19 21 hH1 ?_
 refine Hd.tk 20 21 hH1 ?_
 refine Hd.on 21 (fun K hK => ?_)
 go_simp
 refine (HP.out _ (Hb0.out.trans (HB1.out.mono (by omega)))).mono ?_; rintro e w2 ⟨rfl, hb2⟩
 have hb2' : Below (w.heap.size + 1) W0 w2 := HB1.out.trans (hb2.mono (by have := HB1.out.size; omega))
 have HB2 := Lib.hid hb2'
 clear hb2 hb2'
 go_wp2_with fail
 refine hK.out _ _ (hS _ HB2.out) (fun hH2 => ?_)
 clear hK K
 try simp only [Act.put, Hd.sa, Hd.sz, Hd.ss]
 cases q1 with
 | false =>
  have HE : Hid ((false && q2 && q3) = false) := Lib.hid (by simp)
  clear HT HB HF HZ
  refine Hd.tk 22 23 hH2 ?_
  refine Hd.tk 23 24 hH2 ?_
  refine Hd.sk 24 25 hH2 ?_
  refine Hd.sk 25 27 hH2 ?_
  refine Hd.sk 26 27 hH2 ?_
  refine Hd.sk 27 28 hH2 ?_
  refine Hd.tk 28 29 hH2 ?_
  refine Hd.tk 29 30 hH2 ?_
  refine Hd.sk 30 31 hH2 ?_
  refine Hd.sk 31 32 hH2 ?_
  refine Hd.sk 32 33 hH2 ?_
  refine Hd.sk 33 34 hH2 ?_
  refine Hd.la 34 (fun K hK => ?_)
  go_simp
  refine hK.out _ _ ?_
  clear hK K
  try simp only [Act.put, Hd.sa, Hd.sz, Hd.ss]
  simp only [NoPanic]
  clear hS
  go_wp2_with fail
  go_ret
  exact ⟨by rw [← HQ.out, HE.out]; rfl, Hb0.out.trans (HB2.out.mono (by omega))⟩
 | true =>
  refine Hd.tk 22 23 hH2 ?_
  refine Hd.tk 23 24 hH2 ?_
  refine Hd.tk 24 25 hH2 ?_
  refine Hd.tk 25 27 hH2 ?_
  refine Hd.tk 26 27 hH2 ?_
  refine Hd.on 27 (fun K hK => ?_)
  go_simp
  refine (HT.out _ (Hb0.out.trans (HB2.out.mono (by omega)))).mono ?_; rintro e w3 ⟨rfl, hb3⟩
  have hb3' : Below (w.heap.size + 1) W0 w3 := HB2.out.trans (hb3.mono (by have := HB2.out.size; omega))
  have HB3 := Lib.hid hb3'
  clear hb3 hb3'
  go_wp2_with fail
  refine hK.out _ _ (hS _ HB3.out) (fun hH3 => ?_)
  clear hK K
  try simp only [Act.put, Hd.sa, Hd.sz, Hd.ss]
  cases q2 with
  | false =>
   have HE : Hid ((true && false && q3) = false) := Lib.hid (by simp)
   clear HB HF HZ
   refine Hd.tk 28 29 hH3 ?_
   refine Hd.tk 29 30 hH3 ?_
   refine Hd.sk 30 31 hH3 ?_
   refine Hd.sk 31 32 hH3 ?_
   refine Hd.sk 32 33 hH3 ?_
   refine Hd.sk 33 34 hH3 ?_
   refine Hd.la 34 (fun K hK => ?_)
   go_simp
   refine hK.out _ _ ?_
   clear hK K
   try simp only [Act.put, Hd.sa, Hd.sz, Hd.ss]
   simp only [NoPanic]
   clear hS
   go_wp2_with fail
   go_ret
   exact ⟨by rw [← HQ.out, HE.out]; rfl, Hb0.out.trans (HB3.out.mono (by omega))⟩
  | true =>
   refine Hd.tk 28 29 hH3 ?_
   refine Hd.tk 29 30 hH3 ?_
   refine Hd.tk 30 31 hH3 ?_
   refine Hd.tk 31 32 hH3 ?_
   refine Hd.on 32 (fun K hK => ?_)
   go_simp
   refine (HB.out _ (Hb0.out.trans (HB3.out.mono (by omega)))).mono ?_; rintro e w4 ⟨rfl, hb4⟩
   have hb4' : Below (w.heap.size + 1) W0 w4 := HB3.out.trans (hb4.mono (by have := HB3.out.size; omega))
   have HB4 := Lib.hid hb4'
   clear hb4 hb4'
   go_wp2_with fail
   refine hK.out _ _ (hS _ HB4.out) (fun hH4 => ?_)
   clear hK K
   try simp only [Act.put, Hd.sa, Hd.sz, Hd.ss]
   refine Hd.tk 33 34 hH4 ?_
   refine Hd.la 34 (fun K hK => ?_)
   go_simp
   refine hK.out _ _ ?_
   clear hK K
   try simp only [Act.put, Hd.sa, Hd.sz, Hd.ss]
   simp only [NoPanic]
   obtain ⟨e0, e1, e2, e3, e4, e5⟩ := hS _ HB4.out
   have Hb5 := Lib.hid (Hb0.out.trans (HB4.out.mono (by omega)))
   cases q3 with
   | false =>
    clear hS
    go_wp2_with fail
    go_ret
    exact ⟨by rw [← HQ.out]; rfl, Hb5.out⟩
   | true =>
    have hS2 : ∀ v, Below w4.heap.size w4 v → (v.cell? ⟨w.heap.size, 0, none⟩ = some (.string ⟨m.name.toArray⟩) ∧ v.cell? ⟨w.heap.size, 1, none⟩ = some (.slice pa pl pc) ∧ v.cell? ⟨w.heap.size, 2, none⟩ = some (.slice ta tl tc) ∧ v.cell? ⟨w.heap.size, 3, none⟩ = some (.int .i64 m.prim) ∧ v.cell? ⟨w.heap.size, 4, none⟩ = some (.slice ba bl bc) ∧ v.cell? ⟨w.heap.size, 5, none⟩ = some (.int .i64 m.at_)) := fun v hv => hS v (HB4.out.trans (hv.mono (by have := HB4.out.size; omega)))
    have HS2 := Lib.hid hS2
    clear hS hS2
    go_wp2_with fail
    refine (HF.out _ Hb5.out).mono ?_; rintro e w5 ⟨rfl, hb6⟩
    have hs6 := HS2.out w5 hb6
    have Hb6 := Lib.hid (Hb5.out.trans (hb6.mono Hb5.out.size))
    clear hb6 e0 e1 e2 e3 e4 e5
    obtain ⟨e0, e1, e2, e3, e4, e5⟩ := hs6
    cases q4 with
    | false =>
     go_wp2_with fail
     go_ret
     exact ⟨by rw [← HQ.out]; rfl, Hb6.out⟩
    | true =>
     go_wp2_with fail
     refine (HZ.out _ Hb6.out).mono ?_; rintro e w6 ⟨rfl, hb7⟩
     have Hb7 := Lib.hid (Hb6.out.trans (hb7.mono Hb6.out.size))
     clear hb7
     go_wp2_with fail
     go_ret
     exact ⟨by rw [← HQ.out]; rfl, Hb7.out⟩
end Tr
end Go.Proofs.YtmmgfifpjifjnaaGreatDoor
namespace Go.Proofs.YtmmgfifpjifjnaaGreatDoor
open Go.RowKit
namespace Tr
open Bs Sm
abbrev VL : Type := List (Nd × Value × Value)
def flatN (vl : VL) : List Value := vl.flatMap (fun x => ndC x.1 x.2.1 x.2.2)
theorem flatN_snoc (vl : VL) (x : Nd × Value × Value) : flatN (vl ++ [x]) = flatN vl ++ ndC x.1 x.2.1 x.2.2 := by unfold flatN; simp
theorem flatN_len (vl : VL) : (flatN vl).length = vl.length * 6 := by
 induction vl with
 | nil => rfl
 | cons x vl ih =>
  have : flatN (x :: vl) = ndC x.1 x.2.1 x.2.2 ++ flatN vl := rfl
  rw [this, List.length_append, ih, List.length_cons]
  show 6 + _ = _
  omega
theorem flatN_get : ∀ (vl : VL) (i : Nat) (x : Nd × Value × Value) (j : Nat) (u : Value), vl[i]? = some x → (ndC x.1 x.2.1 x.2.2)[j]? = some u → (flatN vl)[i * 6 + j]? = some u
 | [], i, x, j, u, h, _ => by simp at h
 | y :: vl, 0, x, j, u, h, hj => by
  simp at h
  subst h
  have : flatN (y :: vl) = ndC y.1 y.2.1 y.2.2 ++ flatN vl := rfl
  have hl : (ndC y.1 y.2.1 y.2.2).length = 6 := rfl
  have := (List.getElem?_eq_some_iff.1 hj).1
  rw [‹flatN (y :: vl) = _›, Nat.zero_mul, Nat.zero_add, List.getElem?_append_left (by omega)]
  exact hj
 | y :: vl, i + 1, x, j, u, h, hj => by
  have e : flatN (y :: vl) = ndC y.1 y.2.1 y.2.2 ++ flatN vl := rfl
  have hl : (ndC y.1 y.2.1 y.2.2).length = 6 := rfl
  rw [e, List.getElem?_append_right (by omega), hl]
  have e2 : (i + 1) * 6 + j - 6 = i * 6 + j := by omega
  rw [e2]
  exact flatN_get vl i x j u (by simpa using h) hj
def OwnT (T B : Nat) (S : Nat → Prop) (w : World) (v : Value) (l : List Nd) : Prop :=
 ∃ vl : VL, vl.map (·.1) = l ∧ w.ownsRow B T 6 v vl.length (flatN vl) ∧ ∀ x ∈ vl, Tree (fun b => S b ∧ v.ownBlock ≠ some b) w x.2.1 x.1.kids ∧ Rd (fun b => S b ∧ v.ownBlock ≠ some b) strV w x.2.2 x.1.names
section
variable {T B : Nat} {S S' : Nat → Prop} {w w' : World} {v : Value} {l : List Nd}
theorem OwnT.nil (T B : Nat) (S : Nat → Prop) (w : World) : OwnT T B S w (.slice none 0 0) [] := ⟨[], rfl, World.ownsRow_nil _ _ _ _, fun x hx => by cases hx⟩
theorem OwnT.kp (h : OwnT T B S w v l) (hs : w.heap.size ≤ w'.heap.size) (hk : ∀ b, b < w.heap.size → (S b ∨ B ≤ b) → w'.heap[b]? = w.heap[b]?) : OwnT T B S w' v l := by
 obtain ⟨vl, h1, h2, h3⟩ := h
 have hlt := h2.lt
 refine ⟨vl, h1, ?_, fun x hx => ⟨(h3 x hx).1.kp ⟨hs, fun b hb hl => hk b hl (.inl hb.1)⟩, (h3 x hx).2.kp ⟨hs, fun b hb hl => hk b hl (.inl hb.1)⟩⟩⟩
 obtain ⟨e1, e2⟩ := h2
 refine ⟨e1, ?_⟩
 rcases e2 with hn | ⟨g, cap, cur, rfl, hb, hg, rest⟩
 · exact .inl hn
 exact .inr ⟨g, cap, cur, rfl, hb, (hk g (hlt g rfl).2 (.inr hb)).trans hg, rest⟩
theorem OwnT.bel (h : OwnT T B S w v l) (hb : Below w.heap.size w w') : OwnT T B S w' v l := h.kp hb.size (fun b hl _ => hb.block b hl)
theorem OwnT.tree (h : OwnT T B S w v l) : Tree (fun b => S b ∨ v.ownBlock = some b) w v l := by
 obtain ⟨vl, rfl, h2, h3⟩ := h
 have hlt := h2.lt
 have h0 := h2
 rcases h2.2 with ⟨rfl, hn⟩ | ⟨g, cap, cur, rfl, hb, hg, hnc, hcm, _⟩
 · obtain rfl : vl = [] := List.eq_nil_of_length_eq_zero hn
   exact Tree.nil _ _
 refine .mk vl _ cap hnc hcm (fun h => by cases h) (fun _ => ⟨g, 0, rfl, .inr rfl, (hlt g rfl).2, fun i x hx => ?_⟩) (fun x hx => (h3 x hx).1.mono (fun b hb _ => .inl hb.1)) (fun x hx => (h3 x hx).2.mono (fun b hb _ => .inl hb.1))
 have H : ∀ j u, (ndC x.1 x.2.1 x.2.2)[j]? = some u → w.cell? ⟨g, 0 + i * 6 + j, none⟩ = some u := fun j u hj => by
  have hc := World.ownsRow.cells h0 (g := g) rfl (i * 6 + j) u (flatN_get vl i x j u hx hj)
  have e : (⟨g, 0, none⟩ : Addr).add (i * 6 + j) = ⟨g, 0 + i * 6 + j, none⟩ := by unfold Addr.add; split <;> simp_all
  rw [e] at hc
  exact hc
 exact ⟨H 0 _ rfl, H 1 _ rfl, H 2 _ rfl, H 3 _ rfl, H 4 _ rfl, H 5 _ rfl⟩
theorem own_snoc {vl : VL} {x : Nd} {kv nv : Value} {g cap n : Nat} (hnn : n = vl.length) (hsz : w.heap.size ≤ w'.heap.size)
  (h3 : ∀ y ∈ vl, Tree (fun b => S b ∧ v.ownBlock ≠ some b) w y.2.1 y.1.kids ∧ Rd (fun b => S b ∧ v.ownBlock ≠ some b) strV w y.2.2 y.1.names)
  (hk : Tree (fun b => S b ∧ v.ownBlock ≠ some b) w kv x.kids) (hn : Rd (fun b => S b ∧ v.ownBlock ≠ some b) strV w nv x.names)
  (hown : w'.ownsRow B T 6 (.slice (some ⟨g, 0, none⟩) (n + 1) cap) (n + 1) (flatN vl ++ ndC x kv nv)) (hgrow : w.grownBy w' v.ownBlock) (hat : v.ownBlock = some g ∨ g = w.heap.size) :
  OwnT T B S w' (.slice (some ⟨g, 0, none⟩) (n + 1) cap) (vl.map (·.1) ++ [x]) := by
 subst hnn
 have hkp : Kp (fun b => (S b ∧ v.ownBlock ≠ some b) ∧ b < w.heap.size) w w' := ⟨hsz, fun b hb hl => hgrow.block b hl (fun e => hb.1.2 e.symm)⟩
 have hm1 : ∀ b, (S b ∧ v.ownBlock ≠ some b) → b < w.heap.size → ((S b ∧ v.ownBlock ≠ some b) ∧ b < w.heap.size) := fun b hb hl => ⟨hb, hl⟩
 have hm2 : ∀ b, ((S b ∧ v.ownBlock ≠ some b) ∧ b < w.heap.size) → b < w'.heap.size → (S b ∧ (Value.slice (some ⟨g, 0, none⟩) (vl.length + 1) cap).ownBlock ≠ some b) := fun b hb _ => ⟨hb.1.1, fun e => by
  have e : some g = some b := e
  cases e
  rcases hat with h | h
  · exact hb.1.2 h
  have := hb.2
  omega⟩
 refine ⟨vl ++ [(x, kv, nv)], by simp, ?_, fun y hy => ?_⟩
 · rw [flatN_snoc, List.length_append]
   exact hown
 rcases List.mem_append.1 hy with hy | hy
 · exact ⟨(((h3 y hy).1.mono hm1).kp hkp).mono hm2, (((h3 y hy).2.mono hm1).kp hkp).mono hm2⟩
 obtain rfl := List.mem_singleton.1 hy
 exact ⟨((hk.mono hm1).kp hkp).mono hm2, ((hn.mono hm1).kp hkp).mono hm2⟩
end
end Tr
end Go.Proofs.YtmmgfifpjifjnaaGreatDoor
namespace Go.Proofs.YtmmgfifpjifjnaaGreatDoor
open Go.RowKit
namespace Tr
open Bs Sm
theorem cut_str (l : Bytes) (k : Nat) : (⟨l.toArray⟩ : ByteArray).extract 0 k = ⟨(l.take k).toArray⟩ := by
 apply ByteArray.ext
 simp
theorem cells6 (W : World) (T : TypeId) (v0 v1 v2 v3 v4 v5 : Value) : ∀ j u, [v0, v1, v2, v3, v4, v5][j]? = some u → (W.alloc (.cells #[v0, v1, v2, v3, v4, v5] T)).cell? ((⟨W.heap.size, 0, none⟩ : Addr).add j) = some u := by
 intro j u hj
 match j, hj with
 | 0, hj => simp at hj; subst hj; simp [Addr.add]
 | 1, hj => simp at hj; subst hj; simp [Addr.add]
 | 2, hj => simp at hj; subst hj; simp [Addr.add]
 | 3, hj => simp at hj; subst hj; simp [Addr.add]
 | 4, hj => simp at hj; subst hj; simp [Addr.add]
 | 5, hj => simp at hj; subst hj; simp [Addr.add]
 | n + 6, hj => simp at hj
abbrev RT : Nat := 53
def FewOk (B0 kn : Nat) (l : List Nd) : Prop :=
 ∀ (v : Value) (deep n : Nat) (w : World), deep ≤ 60 → n ≤ 200 → B0 ≤ kn → Blk 3 kn #[.int .i64 (n : Int)] w → Tree (fun b => b < B0) w v l →
  Calls Tryz.prog 20 #[v, .pointer (some ⟨kn, 0, none⟩), .int .i64 (deep : Int)] w (fun e w' => ∃ v', e = .returned v' ∧ OwnT RT w.heap.size (fun b => b < B0 ∨ w.heap.size ≤ b) w' v' (fewL deep n l).1 ∧
   Blk 3 kn #[.int .i64 ((fewL deep n l).2 : Int)] w' ∧ But (fun b => b = kn) w w')
set_option maxRecDepth 100000 in
set_option maxHeartbeats 3200000 in
theorem few_step (B0 kn : Nat) (l : List Nd) (IH : ∀ y ∈ l, FewOk B0 kn y.kids) : FewOk B0 kn l := by
 intro v deep n0 w hdeep hn0 hB0 hk hl
 obtain ⟨i0, hi0, hz0, hz1, hz2⟩ := info_parts (show (Tryz.prog.info? 53).map (fun i => (i.zero, i.size, i.bytes)) = some (some (.agg #[.int .i64 0, .string ⟨#[]⟩, .int .i64 0, .slice none 0 0, .slice none 0 0, .int .i64 0]), 6, 88) by kernel_rfl)
 have tsl : Tryz.prog.underlying 23 = some (.slice 53) := by kernel_rfl
 obtain ⟨a, c, rfl, hc, hm⟩ := hl.form
 obtain ⟨n, hn⟩ : ∃ n, l.length = n := ⟨_, rfl⟩
 have HN := Lib.hid hn
 unfold maxLen at hm
 rw [hn] at hl hc ⊢
 have HL := Lib.hid hl
 have HK := Lib.hid hk
 have hlt := hk.lt
 obtain ⟨R, hR⟩ : ∃ R, fewL deep n0 l = R := ⟨_, rfl⟩
 rw [hR]
 have HR := Lib.hid hR
 replace IH := Lib.hid IH
 clear hl hk hn hR
 go_enter Tryz.func20, Tryz.ntmps20
 go_wp2_with fail
 go_loopw [7, 12] (fun o y wr => ∃ (k m : Nat) (done : List Nd), y = .int .i64 (k : Int) ∧ k ≤ n ∧ m ≤ 200 ∧ Hid (OwnT RT w.heap.size (fun b => b < B0 ∨ w.heap.size ≤ b) wr o done) ∧ Hid (Blk 3 kn #[.int .i64 (m : Int)] wr) ∧ Hid (But (fun b => b = kn) w wr) ∧
   Hid (R = (done ++ (fewL deep m (l.drop k)).1, (fewL deep m (l.drop k)).2)) ∧ done.length + m ≤ 200) (fun _ y _ => n - (intOf y).toNat)
 case atStart => exact ⟨0, n0, [], rfl, Nat.zero_le _, hn0, Lib.hid (OwnT.nil _ _ _ _), HK, Lib.hid (But.refl _ _), Lib.hid (by rw [List.drop_zero, HR.out]; rfl), by simpa using hn0⟩
 obtain ⟨k, m, done, rfl, hk, hm2, hown, hblk, hbut, hgo, hdn⟩ := hrel
 have s0 : wr.cell? ⟨kn, 0, none⟩ = some (.int .i64 (m : Int)) := hblk.out.c 0 _ rfl
 have sf : ∀ i, wr.frozen? ⟨kn, i, none⟩ = false := hblk.out.fz
 have hlt2 := hblk.out.lt
 by_cases hkn : k < n
 · have hdec : decide ((k : Int) < (n : Int)) = true := by simpa using hkn
   have hkw : IntKind.i64.wrap ((k : Int) + 1) = (k : Int) + 1 := IntWalk.i64_in _ (by omega)
   have hkp : Kp (fun b => b < B0) w wr := ⟨hbut.out.size, fun b hb hl => hbut.out.block b hl (by omega)⟩
   obtain ⟨gb, off, x, ka, kc, na, nc, rfl, hx, hgb, hgB, ⟨c0, c1, c2, c3, c4, c5⟩, hkt, hnt⟩ := (HL.out.kp hkp).nth k hkn
   have n1 : ¬ kn = wr.heap.size := by omega
   have n2 : ¬ wr.heap.size = kn := by omega
   have hdr := drop_at hx
   have hgo2 := hgo.out
   rw [hdr, fewL_cons] at hgo2
   by_cases h0 : m = 0
   · rw [if_pos (.inl h0)] at hgo2
     have HG := Lib.hid hgo2
     clear hgo2 hgo hx hdr hkt hnt
     subst h0
     go_wp2_with fail
     go_ret
     exact ⟨_, rfl, by rw [HG.out]; simpa using hown.out.bel (alloc_bel _ _), by rw [HG.out]; exact hblk.out.alloc _, hbut.out.alloc _⟩
   by_cases hd0 : deep = 0
   · rw [if_pos (.inr hd0)] at hgo2
     have HG := Lib.hid hgo2
     clear hgo2 hgo hx hdr hkt hnt
     subst hd0
     have hm0 : decide ((m : Int) ≤ 0) = false := decide_eq_false (by omega)
     go_wp2_with fail
     go_ret
     exact ⟨_, rfl, by rw [HG.out]; simpa using hown.out.bel (alloc_bel _ _), by rw [HG.out]; exact hblk.out.alloc _, hbut.out.alloc _⟩
   rw [if_neg (by omega)] at hgo2
   have HG := Lib.hid hgo2
   have HX := Lib.hid (List.mem_of_getElem? hx)
   have HKT := Lib.hid hkt
   have HNT := Lib.hid hnt
   clear hgo2 hgo hx hdr hkt hnt
   have hm0 : decide ((m : Int) ≤ 0) = false := decide_eq_false (by omega)
   have hd1 : decide ((deep : Int) ≤ 0) = false := decide_eq_false (by omega)
   have hmw : IntKind.i64.wrap ((m : Int) - 1) = ((m - 1 : Nat) : Int) := by
    have : ((m - 1 : Nat) : Int) = (m : Int) - 1 := by omega
    rw [this]; exact IntWalk.i64_in _ (by omega)
   have hdw : IntKind.i64.wrap ((deep : Int) - 1) = ((deep - 1 : Nat) : Int) := by
    have : ((deep - 1 : Nat) : Int) = (deep : Int) - 1 := by omega
    rw [this]; exact IntWalk.i64_in _ (by omega)
   have hsn : (⟨x.name.toArray⟩ : ByteArray).size = x.name.length := rfl
   have hncf : x.names.length ≤ nc := by obtain ⟨_, _, e, h, _⟩ := HNT.out.form; cases e; exact h
   by_cases h5 : 5000 < x.name.length
   · by_cases h9 : 9 < x.names.length
     · have hd5 : decide ((5000 : Int) < (x.name.length : Int)) = true := decide_eq_true (by omega)
       have hd9 : decide ((9 : Int) < (x.names.length : Int)) = true := decide_eq_true (by omega)
       have hc9 : decide ((9 : Int) ≤ (nc : Int)) = true := decide_eq_true (by omega)
       go_upto_region 11 with fail
       obtain ⟨W, hWe⟩ : ∃ W, (wr.setCell ⟨kn, 0, none⟩ (.int .i64 ((m - 1 : Nat) : Int))).alloc (.cells #[.int .i64 x.kind, .string ((⟨x.name.toArray⟩ : ByteArray).extract 0 5000), .int .i64 x.num, .slice ka x.kids.length kc, .slice na 9 nc, .int .i64 x.at_] 53) = W := ⟨_, rfl⟩
       have hz : (wr.setCell ⟨kn, 0, none⟩ (.int .i64 ((m - 1 : Nat) : Int))).heap.size = wr.heap.size := by simp [World.setCell]
       have hBk : Blk 53 wr.heap.size #[.int .i64 x.kind, .string ((⟨x.name.toArray⟩ : ByteArray).extract 0 5000), .int .i64 x.num, .slice ka x.kids.length kc, .slice na 9 nc, .int .i64 x.at_] W := by
        rw [← hWe]
        have h := Blk.made (T := 53) (cs := #[.int .i64 x.kind, .string ((⟨x.name.toArray⟩ : ByteArray).extract 0 5000), .int .i64 x.num, .slice ka x.kids.length kc, .slice na 9 nc, .int .i64 x.at_]) (wr.setCell ⟨kn, 0, none⟩ (.int .i64 ((m - 1 : Nat) : Int)))
        rw [hz] at h
        exact h
       have hKn : Blk 3 kn #[.int .i64 ((m - 1 : Nat) : Int)] W := by rw [← hWe]; exact (hblk.out.set_ 0 _ _ rfl).alloc _
       have hBw : But (fun b => b = kn) wr W := by rw [← hWe]; exact ((But.refl (fun b => b = kn) wr).set_ (k := kn) rfl 0 _).alloc _
       have hWs : W.heap.size = wr.heap.size + 1 := by rw [← hWe, World.size_alloc, hz]
       rw [hWe]
       have hkp1 : Kp (fun b => b < B0) wr W := ⟨hBw.size, fun b hb hl => hBw.block b hl (by omega)⟩
       have HIH := Lib.hid (IH.out x HX.out (.slice ka x.kids.length kc) (deep - 1) (m - 1) W (by omega) (by omega) hB0 hKn (HKT.out.kp hkp1))
       have hwb : w.heap.size ≤ wr.heap.size := hbut.out.size
       have e3 := hBk.c 3 _ rfl
       have HBk := Lib.hid hBk
       have HBw := Lib.hid hBw
       clear hWe hz hBk hKn hBw hkp1 c0 c1 c2 c3 c4 c5 s0 sf
       go_upto_region 12 with fail
       refine HIH.out.mono ?_; rintro e w4 ⟨v4, rfl, hO4, hB4, hbt4⟩
       have hT4 := hO4.tree
       have hlo4 : ∀ g, v4.ownBlock = some g → W.heap.size ≤ g := fun g hg => by obtain ⟨vl4, -, ho4, -⟩ := hO4; exact (ho4.lt g hg).1
       obtain ⟨fo, fl, fc, rfl⟩ : ∃ a b c, v4 = .slice a b c := by obtain ⟨vl4, -, ho4, -⟩ := hO4; obtain ⟨ao, co, h, -⟩ := own_slice ho4; exact ⟨_, _, _, h⟩
       have hbk4 := hbt4.blk HBk.out (by omega)
       have f3 := hbk4.c 3 _ rfl
       have ff := hbk4.fz
       have hl4 := hbk4.lt
       have HB4 := Lib.hid hB4
       have HT4 := Lib.hid (hT4.mono (S' := fun b => b < B0 ∨ W.heap.size ≤ b) (fun b hb _ => by
        rcases hb with (hb | hb) | hb
        · exact .inl hb
        · exact .inr hb
        exact .inr (hlo4 b hb)))
       have HBT4 := Lib.hid (HBw.out.trans hbt4)
       have HK4 := Lib.hid hbk4
       clear hO4 hB4 hbt4 hT4 hlo4 hbk4
       go_upto_region 12 with fail
       obtain ⟨W5, hW5⟩ : ∃ W, w4.setCell ⟨wr.heap.size, 3, none⟩ (.slice fo fl fc) = W := ⟨_, rfl⟩
       have hk5 : Blk 53 wr.heap.size #[.int .i64 x.kind, .string ((⟨x.name.toArray⟩ : ByteArray).extract 0 5000), .int .i64 x.num, .slice fo fl fc, .slice na 9 nc, .int .i64 x.at_] W5 := by rw [← hW5]; exact HK4.out.set_ 3 _ _ rfl
       have hb5 : But (fun b => b = kn) wr W5 := by
        rw [← hW5]
        exact ⟨HBT4.out.os, HBT4.out.tape, HBT4.out.output, Nat.le_trans HBT4.out.size (by simp [World.setCell]), fun b hb hx => (Below.heap_setCell w4 ⟨wr.heap.size, 3, none⟩ _ b (by show b ≠ wr.heap.size; omega)).trans (HBT4.out.block b hb hx)⟩
       have hn5 : Blk 3 kn #[.int .i64 ((fewL (deep - 1) (m - 1) x.kids).2 : Int)] W5 := by rw [← hW5]; exact HB4.out.far (p := ⟨wr.heap.size, 3, none⟩) (by show kn ≠ wr.heap.size; omega) _
       have hs5 : w4.heap.size = W5.heap.size := by rw [← hW5]; simp [World.setCell]
       have hT5 : Tree (fun b => b < B0 ∨ W.heap.size ≤ b) W5 (.slice fo fl fc) (fewL (deep - 1) (m - 1) x.kids).1 := HT4.out.kp ⟨by omega, fun b hb hl => by rw [← hW5]; exact Below.heap_setCell w4 ⟨wr.heap.size, 3, none⟩ _ b (by show b ≠ wr.heap.size; omega)⟩
       have hO5 : OwnT RT w.heap.size (fun b => b < B0 ∨ w.heap.size ≤ b) W5 u7 done := hown.out.kp hb5.size (fun b hl hb => hb5.block b hl (by omega))
       have hN5 : Rd (fun b => b < B0) strV W5 (.slice na 9 nc) (x.names.take 9) := (HNT.out.cut 9 (by omega)).kp ⟨hb5.size, fun b hb hl => hb5.block b hl (by omega)⟩
       rw [hW5]
       obtain ⟨vl, hvl, hrow, hsub⟩ := hO5
       have hown5 : ∀ b, u7.ownBlock = some b → w.heap.size ≤ b ∧ b < wr.heap.size := fun b hb => by
        obtain ⟨vl', -, hr', -⟩ := hown.out
        exact hr'.lt b hb
       have hT6 := hT5.mono (S' := fun b => (b < B0 ∨ w.heap.size ≤ b) ∧ u7.ownBlock ≠ some b) (fun b hb _ => ⟨by omega, fun h => by have := hown5 b h; omega⟩)
       have hN6 := hN5.mono (S' := fun b => (b < B0 ∨ w.heap.size ≤ b) ∧ u7.ownBlock ≠ some b) (fun b hb _ => ⟨by omega, fun h => by have := hown5 b h; omega⟩)
       have hvll : vl.length = done.length := by rw [← hvl, List.length_map]
       have g0 := hk5.c 0 _ rfl
       have g1 := hk5.c 1 _ rfl
       have g2 := hk5.c 2 _ rfl
       have g3 := hk5.c 3 _ rfl
       have g4 := hk5.c 4 _ rfl
       have g5 := hk5.c 5 _ rfl
       have HA := alloc_bel W5 (.cells #[.int .i64 x.kind, .string ((⟨x.name.toArray⟩ : ByteArray).extract 0 5000), .int .i64 x.num, .slice fo fl fc, .slice na 9 nc, .int .i64 x.at_] 53)
       have HT6 := Lib.hid (hT6.bel HA)
       have HN6 := Lib.hid (hN6.below HA)
       have HSUB := Lib.hid (fun y (hy : y ∈ vl) => (⟨(hsub y hy).1.bel HA, (hsub y hy).2.below HA⟩ : _ ∧ _))
       rw [hvll] at hrow
       have HROW := Lib.hid (own_below hrow HA)
       have HN5 := Lib.hid (hn5.alloc (.cells #[.int .i64 x.kind, .string ((⟨x.name.toArray⟩ : ByteArray).extract 0 5000), .int .i64 x.num, .slice fo fl fc, .slice na 9 nc, .int .i64 x.at_] 53))
       have HB5 := Lib.hid (hb5.alloc (.cells #[.int .i64 x.kind, .string ((⟨x.name.toArray⟩ : ByteArray).extract 0 5000), .int .i64 x.num, .slice fo fl fc, .slice na 9 nc, .int .i64 x.at_] 53))
       have HVL := Lib.hid hvl
       have HVLL := Lib.hid hvll
       have HOWN5 := Lib.hid hown5
       have hw5 := hb5.size
       clear hvll hW5 hk5 hb5 hn5 hs5 hT5 hN5 hT6 hN6 HA hrow hsub HT4 HB4 HK4 HBT4 hvl f3 ff e3 hown5
       go_wp2_with (at_builtin; refine wpList_append_lies _ rfl _ _ 23 rfl w.heap.size RT i0 (.agg #[.int .i64 0, .string ⟨#[]⟩, .int .i64 0, .slice none 0 0, .slice none 0 0, .int .i64 0]) 6 88 tsl hi0 hz0 hz1 hz2 rfl (by decide) _ done.length (flatN vl) rfl HROW.out ⟨W5.heap.size, 0, none⟩ 1 1 [.int .i64 x.kind, .string ((⟨x.name.toArray⟩ : ByteArray).extract 0 5000), .int .i64 x.num, .slice fo fl fc, .slice na 9 nc, .int .i64 x.at_] rfl rfl (cells6 W5 RT _ _ _ _ _ _) (fun u hu => by simp at hu; rcases hu with rfl | rfl | rfl | rfl | rfl | rfl <;> rfl) (by decide) (by unfold maxLen; omega) (by omega) (by simp; omega) _ rfl ?_)
       intro g cap w6 hown6 hgrow6 hat6 hlt6
       have hsnoc := own_snoc (n := done.length) (x := cutN x (fewL (deep - 1) (m - 1) x.kids).1) (kv := .slice fo fl fc) (nv := .slice na 9 nc) (S := fun b => b < B0 ∨ w.heap.size ≤ b) HVLL.out.symm hgrow6.size HSUB.out HT6.out HN6.out (by
        have e : ndC (cutN x (fewL (deep - 1) (m - 1) x.kids).1) (.slice fo fl fc) (.slice na 9 nc) = [.int .i64 x.kind, .string ((⟨x.name.toArray⟩ : ByteArray).extract 0 5000), .int .i64 x.num, .slice fo fl fc, .slice na 9 nc, .int .i64 x.at_] := by
         show ([.int .i64 x.kind, .string ⟨(x.name.take 5000).toArray⟩, .int .i64 x.num, .slice fo fl fc, .slice na 9 nc, .int .i64 x.at_] : List Value) = _
         rw [cut_str]
        rw [e]
        exact hown6) hgrow6 (by simpa using hat6)
       rw [HVL.out] at hsnoc
       have hblk6 : Blk 3 kn #[.int .i64 ((fewL (deep - 1) (m - 1) x.kids).2 : Int)] w6 := (hgrow6.block kn HN5.out.lt (fun h => by have := HOWN5.out kn h.symm; omega)).trans HN5.out
       have hb56 := hbut.out.trans HB5.out
       have hbut6 : But (fun b => b = kn) w w6 := ⟨hgrow6.os.trans hb56.os, hgrow6.tape.trans hb56.tape, hgrow6.output.trans hb56.output, Nat.le_trans hb56.size hgrow6.size, fun b hb hx => (hgrow6.block b (Nat.lt_of_lt_of_le hb hb56.size) (fun h => by have := HOWN5.out b h.symm; omega)).trans (hb56.block b hb hx)⟩
       have HSN := Lib.hid hsnoc
       have HBL6 := Lib.hid hblk6
       have HBU6 := Lib.hid hbut6
       clear hown6 hgrow6 hat6 hlt6 hsnoc hblk6 hbut6 hb56
       go_wp2_with fail
       have hcnt := few_cnt x.kids (deep - 1) (m - 1)
       exact ⟨⟨k + 1, (fewL (deep - 1) (m - 1) x.kids).2, done ++ [cutN x (fewL (deep - 1) (m - 1) x.kids).1], by simp, by omega, by omega, HSN, HBL6, HBU6, Lib.hid (by rw [HG.out]; simp), by rw [List.length_append]; simp; omega⟩, by simp only [intOf]; omega⟩
     have hd5 : decide ((5000 : Int) < (x.name.length : Int)) = true := decide_eq_true (by omega)
     have hd9 : decide ((9 : Int) < (x.names.length : Int)) = false := decide_eq_false (by omega)
     go_upto_region 11 with fail
     obtain ⟨W, hWe⟩ : ∃ W, (wr.setCell ⟨kn, 0, none⟩ (.int .i64 ((m - 1 : Nat) : Int))).alloc (.cells #[.int .i64 x.kind, .string ((⟨x.name.toArray⟩ : ByteArray).extract 0 5000), .int .i64 x.num, .slice ka x.kids.length kc, .slice na x.names.length nc, .int .i64 x.at_] 53) = W := ⟨_, rfl⟩
     have hz : (wr.setCell ⟨kn, 0, none⟩ (.int .i64 ((m - 1 : Nat) : Int))).heap.size = wr.heap.size := by simp [World.setCell]
     have hBk : Blk 53 wr.heap.size #[.int .i64 x.kind, .string ((⟨x.name.toArray⟩ : ByteArray).extract 0 5000), .int .i64 x.num, .slice ka x.kids.length kc, .slice na x.names.length nc, .int .i64 x.at_] W := by
      rw [← hWe]
      have h := Blk.made (T := 53) (cs := #[.int .i64 x.kind, .string ((⟨x.name.toArray⟩ : ByteArray).extract 0 5000), .int .i64 x.num, .slice ka x.kids.length kc, .slice na x.names.length nc, .int .i64 x.at_]) (wr.setCell ⟨kn, 0, none⟩ (.int .i64 ((m - 1 : Nat) : Int)))
      rw [hz] at h
      exact h
     have hKn : Blk 3 kn #[.int .i64 ((m - 1 : Nat) : Int)] W := by rw [← hWe]; exact (hblk.out.set_ 0 _ _ rfl).alloc _
     have hBw : But (fun b => b = kn) wr W := by rw [← hWe]; exact ((But.refl (fun b => b = kn) wr).set_ (k := kn) rfl 0 _).alloc _
     have hWs : W.heap.size = wr.heap.size + 1 := by rw [← hWe, World.size_alloc, hz]
     rw [hWe]
     have hkp1 : Kp (fun b => b < B0) wr W := ⟨hBw.size, fun b hb hl => hBw.block b hl (by omega)⟩
     have HIH := Lib.hid (IH.out x HX.out (.slice ka x.kids.length kc) (deep - 1) (m - 1) W (by omega) (by omega) hB0 hKn (HKT.out.kp hkp1))
     have hwb : w.heap.size ≤ wr.heap.size := hbut.out.size
     have e3 := hBk.c 3 _ rfl
     have HBk := Lib.hid hBk
     have HBw := Lib.hid hBw
     clear hWe hz hBk hKn hBw hkp1 c0 c1 c2 c3 c4 c5 s0 sf
     go_upto_region 12 with fail
     refine HIH.out.mono ?_; rintro e w4 ⟨v4, rfl, hO4, hB4, hbt4⟩
     have hT4 := hO4.tree
     have hlo4 : ∀ g, v4.ownBlock = some g → W.heap.size ≤ g := fun g hg => by obtain ⟨vl4, -, ho4, -⟩ := hO4; exact (ho4.lt g hg).1
     obtain ⟨fo, fl, fc, rfl⟩ : ∃ a b c, v4 = .slice a b c := by obtain ⟨vl4, -, ho4, -⟩ := hO4; obtain ⟨ao, co, h, -⟩ := own_slice ho4; exact ⟨_, _, _, h⟩
     have hbk4 := hbt4.blk HBk.out (by omega)
     have f3 := hbk4.c 3 _ rfl
     have ff := hbk4.fz
     have hl4 := hbk4.lt
     have HB4 := Lib.hid hB4
     have HT4 := Lib.hid (hT4.mono (S' := fun b => b < B0 ∨ W.heap.size ≤ b) (fun b hb _ => by
      rcases hb with (hb | hb) | hb
      · exact .inl hb
      · exact .inr hb
      exact .inr (hlo4 b hb)))
     have HBT4 := Lib.hid (HBw.out.trans hbt4)
     have HK4 := Lib.hid hbk4
     clear hO4 hB4 hbt4 hT4 hlo4 hbk4
     go_upto_region 12 with fail
     obtain ⟨W5, hW5⟩ : ∃ W, w4.setCell ⟨wr.heap.size, 3, none⟩ (.slice fo fl fc) = W := ⟨_, rfl⟩
     have hk5 : Blk 53 wr.heap.size #[.int .i64 x.kind, .string ((⟨x.name.toArray⟩ : ByteArray).extract 0 5000), .int .i64 x.num, .slice fo fl fc, .slice na x.names.length nc, .int .i64 x.at_] W5 := by rw [← hW5]; exact HK4.out.set_ 3 _ _ rfl
     have hb5 : But (fun b => b = kn) wr W5 := by
      rw [← hW5]
      exact ⟨HBT4.out.os, HBT4.out.tape, HBT4.out.output, Nat.le_trans HBT4.out.size (by simp [World.setCell]), fun b hb hx => (Below.heap_setCell w4 ⟨wr.heap.size, 3, none⟩ _ b (by show b ≠ wr.heap.size; omega)).trans (HBT4.out.block b hb hx)⟩
     have hn5 : Blk 3 kn #[.int .i64 ((fewL (deep - 1) (m - 1) x.kids).2 : Int)] W5 := by rw [← hW5]; exact HB4.out.far (p := ⟨wr.heap.size, 3, none⟩) (by show kn ≠ wr.heap.size; omega) _
     have hs5 : w4.heap.size = W5.heap.size := by rw [← hW5]; simp [World.setCell]
     have hT5 : Tree (fun b => b < B0 ∨ W.heap.size ≤ b) W5 (.slice fo fl fc) (fewL (deep - 1) (m - 1) x.kids).1 := HT4.out.kp ⟨by omega, fun b hb hl => by rw [← hW5]; exact Below.heap_setCell w4 ⟨wr.heap.size, 3, none⟩ _ b (by show b ≠ wr.heap.size; omega)⟩
     have hO5 : OwnT RT w.heap.size (fun b => b < B0 ∨ w.heap.size ≤ b) W5 u7 done := hown.out.kp hb5.size (fun b hl hb => hb5.block b hl (by omega))
     have hN5 : Rd (fun b => b < B0) strV W5 (.slice na x.names.length nc) (x.names.take 9) := (show Rd (fun b => b < B0) strV wr (.slice na x.names.length nc) (x.names.take 9) from (by rw [List.take_of_length_le (by omega)]; exact HNT.out)).kp ⟨hb5.size, fun b hb hl => hb5.block b hl (by omega)⟩
     rw [hW5]
     obtain ⟨vl, hvl, hrow, hsub⟩ := hO5
     have hown5 : ∀ b, u7.ownBlock = some b → w.heap.size ≤ b ∧ b < wr.heap.size := fun b hb => by
      obtain ⟨vl', -, hr', -⟩ := hown.out
      exact hr'.lt b hb
     have hT6 := hT5.mono (S' := fun b => (b < B0 ∨ w.heap.size ≤ b) ∧ u7.ownBlock ≠ some b) (fun b hb _ => ⟨by omega, fun h => by have := hown5 b h; omega⟩)
     have hN6 := hN5.mono (S' := fun b => (b < B0 ∨ w.heap.size ≤ b) ∧ u7.ownBlock ≠ some b) (fun b hb _ => ⟨by omega, fun h => by have := hown5 b h; omega⟩)
     have hvll : vl.length = done.length := by rw [← hvl, List.length_map]
     have g0 := hk5.c 0 _ rfl
     have g1 := hk5.c 1 _ rfl
     have g2 := hk5.c 2 _ rfl
     have g3 := hk5.c 3 _ rfl
     have g4 := hk5.c 4 _ rfl
     have g5 := hk5.c 5 _ rfl
     have HA := alloc_bel W5 (.cells #[.int .i64 x.kind, .string ((⟨x.name.toArray⟩ : ByteArray).extract 0 5000), .int .i64 x.num, .slice fo fl fc, .slice na x.names.length nc, .int .i64 x.at_] 53)
     have HT6 := Lib.hid (hT6.bel HA)
     have HN6 := Lib.hid (hN6.below HA)
     have HSUB := Lib.hid (fun y (hy : y ∈ vl) => (⟨(hsub y hy).1.bel HA, (hsub y hy).2.below HA⟩ : _ ∧ _))
     rw [hvll] at hrow
     have HROW := Lib.hid (own_below hrow HA)
     have HN5 := Lib.hid (hn5.alloc (.cells #[.int .i64 x.kind, .string ((⟨x.name.toArray⟩ : ByteArray).extract 0 5000), .int .i64 x.num, .slice fo fl fc, .slice na x.names.length nc, .int .i64 x.at_] 53))
     have HB5 := Lib.hid (hb5.alloc (.cells #[.int .i64 x.kind, .string ((⟨x.name.toArray⟩ : ByteArray).extract 0 5000), .int .i64 x.num, .slice fo fl fc, .slice na x.names.length nc, .int .i64 x.at_] 53))
     have HVL := Lib.hid hvl
     have HVLL := Lib.hid hvll
     have HOWN5 := Lib.hid hown5
     have hw5 := hb5.size
     clear hvll hW5 hk5 hb5 hn5 hs5 hT5 hN5 hT6 hN6 HA hrow hsub HT4 HB4 HK4 HBT4 hvl f3 ff e3 hown5
     go_wp2_with (at_builtin; refine wpList_append_lies _ rfl _ _ 23 rfl w.heap.size RT i0 (.agg #[.int .i64 0, .string ⟨#[]⟩, .int .i64 0, .slice none 0 0, .slice none 0 0, .int .i64 0]) 6 88 tsl hi0 hz0 hz1 hz2 rfl (by decide) _ done.length (flatN vl) rfl HROW.out ⟨W5.heap.size, 0, none⟩ 1 1 [.int .i64 x.kind, .string ((⟨x.name.toArray⟩ : ByteArray).extract 0 5000), .int .i64 x.num, .slice fo fl fc, .slice na x.names.length nc, .int .i64 x.at_] rfl rfl (cells6 W5 RT _ _ _ _ _ _) (fun u hu => by simp at hu; rcases hu with rfl | rfl | rfl | rfl | rfl | rfl <;> rfl) (by decide) (by unfold maxLen; omega) (by omega) (by simp; omega) _ rfl ?_)
     intro g cap w6 hown6 hgrow6 hat6 hlt6
     have hsnoc := own_snoc (n := done.length) (x := cutN x (fewL (deep - 1) (m - 1) x.kids).1) (kv := .slice fo fl fc) (nv := .slice na x.names.length nc) (S := fun b => b < B0 ∨ w.heap.size ≤ b) HVLL.out.symm hgrow6.size HSUB.out HT6.out HN6.out (by
      have e : ndC (cutN x (fewL (deep - 1) (m - 1) x.kids).1) (.slice fo fl fc) (.slice na x.names.length nc) = [.int .i64 x.kind, .string ((⟨x.name.toArray⟩ : ByteArray).extract 0 5000), .int .i64 x.num, .slice fo fl fc, .slice na x.names.length nc, .int .i64 x.at_] := by
       show ([.int .i64 x.kind, .string ⟨(x.name.take 5000).toArray⟩, .int .i64 x.num, .slice fo fl fc, .slice na x.names.length nc, .int .i64 x.at_] : List Value) = _
       rw [cut_str]
      rw [e]
      exact hown6) hgrow6 (by simpa using hat6)
     rw [HVL.out] at hsnoc
     have hblk6 : Blk 3 kn #[.int .i64 ((fewL (deep - 1) (m - 1) x.kids).2 : Int)] w6 := (hgrow6.block kn HN5.out.lt (fun h => by have := HOWN5.out kn h.symm; omega)).trans HN5.out
     have hb56 := hbut.out.trans HB5.out
     have hbut6 : But (fun b => b = kn) w w6 := ⟨hgrow6.os.trans hb56.os, hgrow6.tape.trans hb56.tape, hgrow6.output.trans hb56.output, Nat.le_trans hb56.size hgrow6.size, fun b hb hx => (hgrow6.block b (Nat.lt_of_lt_of_le hb hb56.size) (fun h => by have := HOWN5.out b h.symm; omega)).trans (hb56.block b hb hx)⟩
     have HSN := Lib.hid hsnoc
     have HBL6 := Lib.hid hblk6
     have HBU6 := Lib.hid hbut6
     clear hown6 hgrow6 hat6 hlt6 hsnoc hblk6 hbut6 hb56
     go_wp2_with fail
     have hcnt := few_cnt x.kids (deep - 1) (m - 1)
     exact ⟨⟨k + 1, (fewL (deep - 1) (m - 1) x.kids).2, done ++ [cutN x (fewL (deep - 1) (m - 1) x.kids).1], by simp, by omega, by omega, HSN, HBL6, HBU6, Lib.hid (by rw [HG.out]; simp), by rw [List.length_append]; simp; omega⟩, by simp only [intOf]; omega⟩
   by_cases h9 : 9 < x.names.length
   · have hd5 : decide ((5000 : Int) < (x.name.length : Int)) = false := decide_eq_false (by omega)
     have hd9 : decide ((9 : Int) < (x.names.length : Int)) = true := decide_eq_true (by omega)
     have hc9 : decide ((9 : Int) ≤ (nc : Int)) = true := decide_eq_true (by omega)
     go_upto_region 11 with fail
     obtain ⟨W, hWe⟩ : ∃ W, (wr.setCell ⟨kn, 0, none⟩ (.int .i64 ((m - 1 : Nat) : Int))).alloc (.cells #[.int .i64 x.kind, .string ⟨x.name.toArray⟩, .int .i64 x.num, .slice ka x.kids.length kc, .slice na 9 nc, .int .i64 x.at_] 53) = W := ⟨_, rfl⟩
     have hz : (wr.setCell ⟨kn, 0, none⟩ (.int .i64 ((m - 1 : Nat) : Int))).heap.size = wr.heap.size := by simp [World.setCell]
     have hBk : Blk 53 wr.heap.size #[.int .i64 x.kind, .string ⟨x.name.toArray⟩, .int .i64 x.num, .slice ka x.kids.length kc, .slice na 9 nc, .int .i64 x.at_] W := by
      rw [← hWe]
      have h := Blk.made (T := 53) (cs := #[.int .i64 x.kind, .string ⟨x.name.toArray⟩, .int .i64 x.num, .slice ka x.kids.length kc, .slice na 9 nc, .int .i64 x.at_]) (wr.setCell ⟨kn, 0, none⟩ (.int .i64 ((m - 1 : Nat) : Int)))
      rw [hz] at h
      exact h
     have hKn : Blk 3 kn #[.int .i64 ((m - 1 : Nat) : Int)] W := by rw [← hWe]; exact (hblk.out.set_ 0 _ _ rfl).alloc _
     have hBw : But (fun b => b = kn) wr W := by rw [← hWe]; exact ((But.refl (fun b => b = kn) wr).set_ (k := kn) rfl 0 _).alloc _
     have hWs : W.heap.size = wr.heap.size + 1 := by rw [← hWe, World.size_alloc, hz]
     rw [hWe]
     have hkp1 : Kp (fun b => b < B0) wr W := ⟨hBw.size, fun b hb hl => hBw.block b hl (by omega)⟩
     have HIH := Lib.hid (IH.out x HX.out (.slice ka x.kids.length kc) (deep - 1) (m - 1) W (by omega) (by omega) hB0 hKn (HKT.out.kp hkp1))
     have hwb : w.heap.size ≤ wr.heap.size := hbut.out.size
     have e3 := hBk.c 3 _ rfl
     have HBk := Lib.hid hBk
     have HBw := Lib.hid hBw
     clear hWe hz hBk hKn hBw hkp1 c0 c1 c2 c3 c4 c5 s0 sf
     go_upto_region 12 with fail
     refine HIH.out.mono ?_; rintro e w4 ⟨v4, rfl, hO4, hB4, hbt4⟩
     have hT4 := hO4.tree
     have hlo4 : ∀ g, v4.ownBlock = some g → W.heap.size ≤ g := fun g hg => by obtain ⟨vl4, -, ho4, -⟩ := hO4; exact (ho4.lt g hg).1
     obtain ⟨fo, fl, fc, rfl⟩ : ∃ a b c, v4 = .slice a b c := by obtain ⟨vl4, -, ho4, -⟩ := hO4; obtain ⟨ao, co, h, -⟩ := own_slice ho4; exact ⟨_, _, _, h⟩
     have hbk4 := hbt4.blk HBk.out (by omega)
     have f3 := hbk4.c 3 _ rfl
     have ff := hbk4.fz
     have hl4 := hbk4.lt
     have HB4 := Lib.hid hB4
     have HT4 := Lib.hid (hT4.mono (S' := fun b => b < B0 ∨ W.heap.size ≤ b) (fun b hb _ => by
      rcases hb with (hb | hb) | hb
      · exact .inl hb
      · exact .inr hb
      exact .inr (hlo4 b hb)))
     have HBT4 := Lib.hid (HBw.out.trans hbt4)
     have HK4 := Lib.hid hbk4
     clear hO4 hB4 hbt4 hT4 hlo4 hbk4
     go_upto_region 12 with fail
     obtain ⟨W5, hW5⟩ : ∃ W, w4.setCell ⟨wr.heap.size, 3, none⟩ (.slice fo fl fc) = W := ⟨_, rfl⟩
     have hk5 : Blk 53 wr.heap.size #[.int .i64 x.kind, .string ⟨x.name.toArray⟩, .int .i64 x.num, .slice fo fl fc, .slice na 9 nc, .int .i64 x.at_] W5 := by rw [← hW5]; exact HK4.out.set_ 3 _ _ rfl
     have hb5 : But (fun b => b = kn) wr W5 := by
      rw [← hW5]
      exact ⟨HBT4.out.os, HBT4.out.tape, HBT4.out.output, Nat.le_trans HBT4.out.size (by simp [World.setCell]), fun b hb hx => (Below.heap_setCell w4 ⟨wr.heap.size, 3, none⟩ _ b (by show b ≠ wr.heap.size; omega)).trans (HBT4.out.block b hb hx)⟩
     have hn5 : Blk 3 kn #[.int .i64 ((fewL (deep - 1) (m - 1) x.kids).2 : Int)] W5 := by rw [← hW5]; exact HB4.out.far (p := ⟨wr.heap.size, 3, none⟩) (by show kn ≠ wr.heap.size; omega) _
     have hs5 : w4.heap.size = W5.heap.size := by rw [← hW5]; simp [World.setCell]
     have hT5 : Tree (fun b => b < B0 ∨ W.heap.size ≤ b) W5 (.slice fo fl fc) (fewL (deep - 1) (m - 1) x.kids).1 := HT4.out.kp ⟨by omega, fun b hb hl => by rw [← hW5]; exact Below.heap_setCell w4 ⟨wr.heap.size, 3, none⟩ _ b (by show b ≠ wr.heap.size; omega)⟩
     have hO5 : OwnT RT w.heap.size (fun b => b < B0 ∨ w.heap.size ≤ b) W5 u7 done := hown.out.kp hb5.size (fun b hl hb => hb5.block b hl (by omega))
     have hN5 : Rd (fun b => b < B0) strV W5 (.slice na 9 nc) (x.names.take 9) := (HNT.out.cut 9 (by omega)).kp ⟨hb5.size, fun b hb hl => hb5.block b hl (by omega)⟩
     rw [hW5]
     obtain ⟨vl, hvl, hrow, hsub⟩ := hO5
     have hown5 : ∀ b, u7.ownBlock = some b → w.heap.size ≤ b ∧ b < wr.heap.size := fun b hb => by
      obtain ⟨vl', -, hr', -⟩ := hown.out
      exact hr'.lt b hb
     have hT6 := hT5.mono (S' := fun b => (b < B0 ∨ w.heap.size ≤ b) ∧ u7.ownBlock ≠ some b) (fun b hb _ => ⟨by omega, fun h => by have := hown5 b h; omega⟩)
     have hN6 := hN5.mono (S' := fun b => (b < B0 ∨ w.heap.size ≤ b) ∧ u7.ownBlock ≠ some b) (fun b hb _ => ⟨by omega, fun h => by have := hown5 b h; omega⟩)
     have hvll : vl.length = done.length := by rw [← hvl, List.length_map]
     have g0 := hk5.c 0 _ rfl
     have g1 := hk5.c 1 _ rfl
     have g2 := hk5.c 2 _ rfl
     have g3 := hk5.c 3 _ rfl
     have g4 := hk5.c 4 _ rfl
     have g5 := hk5.c 5 _ rfl
     have HA := alloc_bel W5 (.cells #[.int .i64 x.kind, .string ⟨x.name.toArray⟩, .int .i64 x.num, .slice fo fl fc, .slice na 9 nc, .int .i64 x.at_] 53)
     have HT6 := Lib.hid (hT6.bel HA)
     have HN6 := Lib.hid (hN6.below HA)
     have HSUB := Lib.hid (fun y (hy : y ∈ vl) => (⟨(hsub y hy).1.bel HA, (hsub y hy).2.below HA⟩ : _ ∧ _))
     rw [hvll] at hrow
     have HROW := Lib.hid (own_below hrow HA)
     have HN5 := Lib.hid (hn5.alloc (.cells #[.int .i64 x.kind, .string ⟨x.name.toArray⟩, .int .i64 x.num, .slice fo fl fc, .slice na 9 nc, .int .i64 x.at_] 53))
     have HB5 := Lib.hid (hb5.alloc (.cells #[.int .i64 x.kind, .string ⟨x.name.toArray⟩, .int .i64 x.num, .slice fo fl fc, .slice na 9 nc, .int .i64 x.at_] 53))
     have HVL := Lib.hid hvl
     have HVLL := Lib.hid hvll
     have HOWN5 := Lib.hid hown5
     have hw5 := hb5.size
     clear hvll hW5 hk5 hb5 hn5 hs5 hT5 hN5 hT6 hN6 HA hrow hsub HT4 HB4 HK4 HBT4 hvl f3 ff e3 hown5
     go_wp2_with (at_builtin; refine wpList_append_lies _ rfl _ _ 23 rfl w.heap.size RT i0 (.agg #[.int .i64 0, .string ⟨#[]⟩, .int .i64 0, .slice none 0 0, .slice none 0 0, .int .i64 0]) 6 88 tsl hi0 hz0 hz1 hz2 rfl (by decide) _ done.length (flatN vl) rfl HROW.out ⟨W5.heap.size, 0, none⟩ 1 1 [.int .i64 x.kind, .string ⟨x.name.toArray⟩, .int .i64 x.num, .slice fo fl fc, .slice na 9 nc, .int .i64 x.at_] rfl rfl (cells6 W5 RT _ _ _ _ _ _) (fun u hu => by simp at hu; rcases hu with rfl | rfl | rfl | rfl | rfl | rfl <;> rfl) (by decide) (by unfold maxLen; omega) (by omega) (by simp; omega) _ rfl ?_)
     intro g cap w6 hown6 hgrow6 hat6 hlt6
     have hsnoc := own_snoc (n := done.length) (x := cutN x (fewL (deep - 1) (m - 1) x.kids).1) (kv := .slice fo fl fc) (nv := .slice na 9 nc) (S := fun b => b < B0 ∨ w.heap.size ≤ b) HVLL.out.symm hgrow6.size HSUB.out HT6.out HN6.out (by
      have e : ndC (cutN x (fewL (deep - 1) (m - 1) x.kids).1) (.slice fo fl fc) (.slice na 9 nc) = [.int .i64 x.kind, .string ⟨x.name.toArray⟩, .int .i64 x.num, .slice fo fl fc, .slice na 9 nc, .int .i64 x.at_] := by
       show ([.int .i64 x.kind, .string ⟨(x.name.take 5000).toArray⟩, .int .i64 x.num, .slice fo fl fc, .slice na 9 nc, .int .i64 x.at_] : List Value) = _
       rw [List.take_of_length_le (by omega)]
      rw [e]
      exact hown6) hgrow6 (by simpa using hat6)
     rw [HVL.out] at hsnoc
     have hblk6 : Blk 3 kn #[.int .i64 ((fewL (deep - 1) (m - 1) x.kids).2 : Int)] w6 := (hgrow6.block kn HN5.out.lt (fun h => by have := HOWN5.out kn h.symm; omega)).trans HN5.out
     have hb56 := hbut.out.trans HB5.out
     have hbut6 : But (fun b => b = kn) w w6 := ⟨hgrow6.os.trans hb56.os, hgrow6.tape.trans hb56.tape, hgrow6.output.trans hb56.output, Nat.le_trans hb56.size hgrow6.size, fun b hb hx => (hgrow6.block b (Nat.lt_of_lt_of_le hb hb56.size) (fun h => by have := HOWN5.out b h.symm; omega)).trans (hb56.block b hb hx)⟩
     have HSN := Lib.hid hsnoc
     have HBL6 := Lib.hid hblk6
     have HBU6 := Lib.hid hbut6
     clear hown6 hgrow6 hat6 hlt6 hsnoc hblk6 hbut6 hb56
     go_wp2_with fail
     have hcnt := few_cnt x.kids (deep - 1) (m - 1)
     exact ⟨⟨k + 1, (fewL (deep - 1) (m - 1) x.kids).2, done ++ [cutN x (fewL (deep - 1) (m - 1) x.kids).1], by simp, by omega, by omega, HSN, HBL6, HBU6, Lib.hid (by rw [HG.out]; simp), by rw [List.length_append]; simp; omega⟩, by simp only [intOf]; omega⟩
   have hd5 : decide ((5000 : Int) < (x.name.length : Int)) = false := decide_eq_false (by omega)
   have hd9 : decide ((9 : Int) < (x.names.length : Int)) = false := decide_eq_false (by omega)
   go_upto_region 11 with fail
   obtain ⟨W, hWe⟩ : ∃ W, (wr.setCell ⟨kn, 0, none⟩ (.int .i64 ((m - 1 : Nat) : Int))).alloc (.cells #[.int .i64 x.kind, .string ⟨x.name.toArray⟩, .int .i64 x.num, .slice ka x.kids.length kc, .slice na x.names.length nc, .int .i64 x.at_] 53) = W := ⟨_, rfl⟩
   have hz : (wr.setCell ⟨kn, 0, none⟩ (.int .i64 ((m - 1 : Nat) : Int))).heap.size = wr.heap.size := by simp [World.setCell]
   have hBk : Blk 53 wr.heap.size #[.int .i64 x.kind, .string ⟨x.name.toArray⟩, .int .i64 x.num, .slice ka x.kids.length kc, .slice na x.names.length nc, .int .i64 x.at_] W := by
    rw [← hWe]
    have h := Blk.made (T := 53) (cs := #[.int .i64 x.kind, .string ⟨x.name.toArray⟩, .int .i64 x.num, .slice ka x.kids.length kc, .slice na x.names.length nc, .int .i64 x.at_]) (wr.setCell ⟨kn, 0, none⟩ (.int .i64 ((m - 1 : Nat) : Int)))
    rw [hz] at h
    exact h
   have hKn : Blk 3 kn #[.int .i64 ((m - 1 : Nat) : Int)] W := by rw [← hWe]; exact (hblk.out.set_ 0 _ _ rfl).alloc _
   have hBw : But (fun b => b = kn) wr W := by rw [← hWe]; exact ((But.refl (fun b => b = kn) wr).set_ (k := kn) rfl 0 _).alloc _
   have hWs : W.heap.size = wr.heap.size + 1 := by rw [← hWe, World.size_alloc, hz]
   rw [hWe]
   have hkp1 : Kp (fun b => b < B0) wr W := ⟨hBw.size, fun b hb hl => hBw.block b hl (by omega)⟩
   have HIH := Lib.hid (IH.out x HX.out (.slice ka x.kids.length kc) (deep - 1) (m - 1) W (by omega) (by omega) hB0 hKn (HKT.out.kp hkp1))
   have hwb : w.heap.size ≤ wr.heap.size := hbut.out.size
   have e3 := hBk.c 3 _ rfl
   have HBk := Lib.hid hBk
   have HBw := Lib.hid hBw
   clear hWe hz hBk hKn hBw hkp1 c0 c1 c2 c3 c4 c5 s0 sf
   go_upto_region 12 with fail
   refine HIH.out.mono ?_; rintro e w4 ⟨v4, rfl, hO4, hB4, hbt4⟩
   have hT4 := hO4.tree
   have hlo4 : ∀ g, v4.ownBlock = some g → W.heap.size ≤ g := fun g hg => by obtain ⟨vl4, -, ho4, -⟩ := hO4; exact (ho4.lt g hg).1
   obtain ⟨fo, fl, fc, rfl⟩ : ∃ a b c, v4 = .slice a b c := by obtain ⟨vl4, -, ho4, -⟩ := hO4; obtain ⟨ao, co, h, -⟩ := own_slice ho4; exact ⟨_, _, _, h⟩
   have hbk4 := hbt4.blk HBk.out (by omega)
   have f3 := hbk4.c 3 _ rfl
   have ff := hbk4.fz
   have hl4 := hbk4.lt
   have HB4 := Lib.hid hB4
   have HT4 := Lib.hid (hT4.mono (S' := fun b => b < B0 ∨ W.heap.size ≤ b) (fun b hb _ => by
    rcases hb with (hb | hb) | hb
    · exact .inl hb
    · exact .inr hb
    exact .inr (hlo4 b hb)))
   have HBT4 := Lib.hid (HBw.out.trans hbt4)
   have HK4 := Lib.hid hbk4
   clear hO4 hB4 hbt4 hT4 hlo4 hbk4
   go_upto_region 12 with fail
   obtain ⟨W5, hW5⟩ : ∃ W, w4.setCell ⟨wr.heap.size, 3, none⟩ (.slice fo fl fc) = W := ⟨_, rfl⟩
   have hk5 : Blk 53 wr.heap.size #[.int .i64 x.kind, .string ⟨x.name.toArray⟩, .int .i64 x.num, .slice fo fl fc, .slice na x.names.length nc, .int .i64 x.at_] W5 := by rw [← hW5]; exact HK4.out.set_ 3 _ _ rfl
   have hb5 : But (fun b => b = kn) wr W5 := by
    rw [← hW5]
    exact ⟨HBT4.out.os, HBT4.out.tape, HBT4.out.output, Nat.le_trans HBT4.out.size (by simp [World.setCell]), fun b hb hx => (Below.heap_setCell w4 ⟨wr.heap.size, 3, none⟩ _ b (by show b ≠ wr.heap.size; omega)).trans (HBT4.out.block b hb hx)⟩
   have hn5 : Blk 3 kn #[.int .i64 ((fewL (deep - 1) (m - 1) x.kids).2 : Int)] W5 := by rw [← hW5]; exact HB4.out.far (p := ⟨wr.heap.size, 3, none⟩) (by show kn ≠ wr.heap.size; omega) _
   have hs5 : w4.heap.size = W5.heap.size := by rw [← hW5]; simp [World.setCell]
   have hT5 : Tree (fun b => b < B0 ∨ W.heap.size ≤ b) W5 (.slice fo fl fc) (fewL (deep - 1) (m - 1) x.kids).1 := HT4.out.kp ⟨by omega, fun b hb hl => by rw [← hW5]; exact Below.heap_setCell w4 ⟨wr.heap.size, 3, none⟩ _ b (by show b ≠ wr.heap.size; omega)⟩
   have hO5 : OwnT RT w.heap.size (fun b => b < B0 ∨ w.heap.size ≤ b) W5 u7 done := hown.out.kp hb5.size (fun b hl hb => hb5.block b hl (by omega))
   have hN5 : Rd (fun b => b < B0) strV W5 (.slice na x.names.length nc) (x.names.take 9) := (show Rd (fun b => b < B0) strV wr (.slice na x.names.length nc) (x.names.take 9) from (by rw [List.take_of_length_le (by omega)]; exact HNT.out)).kp ⟨hb5.size, fun b hb hl => hb5.block b hl (by omega)⟩
   rw [hW5]
   obtain ⟨vl, hvl, hrow, hsub⟩ := hO5
   have hown5 : ∀ b, u7.ownBlock = some b → w.heap.size ≤ b ∧ b < wr.heap.size := fun b hb => by
    obtain ⟨vl', -, hr', -⟩ := hown.out
    exact hr'.lt b hb
   have hT6 := hT5.mono (S' := fun b => (b < B0 ∨ w.heap.size ≤ b) ∧ u7.ownBlock ≠ some b) (fun b hb _ => ⟨by omega, fun h => by have := hown5 b h; omega⟩)
   have hN6 := hN5.mono (S' := fun b => (b < B0 ∨ w.heap.size ≤ b) ∧ u7.ownBlock ≠ some b) (fun b hb _ => ⟨by omega, fun h => by have := hown5 b h; omega⟩)
   have hvll : vl.length = done.length := by rw [← hvl, List.length_map]
   have g0 := hk5.c 0 _ rfl
   have g1 := hk5.c 1 _ rfl
   have g2 := hk5.c 2 _ rfl
   have g3 := hk5.c 3 _ rfl
   have g4 := hk5.c 4 _ rfl
   have g5 := hk5.c 5 _ rfl
   have HA := alloc_bel W5 (.cells #[.int .i64 x.kind, .string ⟨x.name.toArray⟩, .int .i64 x.num, .slice fo fl fc, .slice na x.names.length nc, .int .i64 x.at_] 53)
   have HT6 := Lib.hid (hT6.bel HA)
   have HN6 := Lib.hid (hN6.below HA)
   have HSUB := Lib.hid (fun y (hy : y ∈ vl) => (⟨(hsub y hy).1.bel HA, (hsub y hy).2.below HA⟩ : _ ∧ _))
   rw [hvll] at hrow
   have HROW := Lib.hid (own_below hrow HA)
   have HN5 := Lib.hid (hn5.alloc (.cells #[.int .i64 x.kind, .string ⟨x.name.toArray⟩, .int .i64 x.num, .slice fo fl fc, .slice na x.names.length nc, .int .i64 x.at_] 53))
   have HB5 := Lib.hid (hb5.alloc (.cells #[.int .i64 x.kind, .string ⟨x.name.toArray⟩, .int .i64 x.num, .slice fo fl fc, .slice na x.names.length nc, .int .i64 x.at_] 53))
   have HVL := Lib.hid hvl
   have HVLL := Lib.hid hvll
   have HOWN5 := Lib.hid hown5
   have hw5 := hb5.size
   clear hvll hW5 hk5 hb5 hn5 hs5 hT5 hN5 hT6 hN6 HA hrow hsub HT4 HB4 HK4 HBT4 hvl f3 ff e3 hown5
   go_wp2_with (at_builtin; refine wpList_append_lies _ rfl _ _ 23 rfl w.heap.size RT i0 (.agg #[.int .i64 0, .string ⟨#[]⟩, .int .i64 0, .slice none 0 0, .slice none 0 0, .int .i64 0]) 6 88 tsl hi0 hz0 hz1 hz2 rfl (by decide) _ done.length (flatN vl) rfl HROW.out ⟨W5.heap.size, 0, none⟩ 1 1 [.int .i64 x.kind, .string ⟨x.name.toArray⟩, .int .i64 x.num, .slice fo fl fc, .slice na x.names.length nc, .int .i64 x.at_] rfl rfl (cells6 W5 RT _ _ _ _ _ _) (fun u hu => by simp at hu; rcases hu with rfl | rfl | rfl | rfl | rfl | rfl <;> rfl) (by decide) (by unfold maxLen; omega) (by omega) (by simp; omega) _ rfl ?_)
   intro g cap w6 hown6 hgrow6 hat6 hlt6
   have hsnoc := own_snoc (n := done.length) (x := cutN x (fewL (deep - 1) (m - 1) x.kids).1) (kv := .slice fo fl fc) (nv := .slice na x.names.length nc) (S := fun b => b < B0 ∨ w.heap.size ≤ b) HVLL.out.symm hgrow6.size HSUB.out HT6.out HN6.out (by
    have e : ndC (cutN x (fewL (deep - 1) (m - 1) x.kids).1) (.slice fo fl fc) (.slice na x.names.length nc) = [.int .i64 x.kind, .string ⟨x.name.toArray⟩, .int .i64 x.num, .slice fo fl fc, .slice na x.names.length nc, .int .i64 x.at_] := by
     show ([.int .i64 x.kind, .string ⟨(x.name.take 5000).toArray⟩, .int .i64 x.num, .slice fo fl fc, .slice na x.names.length nc, .int .i64 x.at_] : List Value) = _
     rw [List.take_of_length_le (by omega)]
    rw [e]
    exact hown6) hgrow6 (by simpa using hat6)
   rw [HVL.out] at hsnoc
   have hblk6 : Blk 3 kn #[.int .i64 ((fewL (deep - 1) (m - 1) x.kids).2 : Int)] w6 := (hgrow6.block kn HN5.out.lt (fun h => by have := HOWN5.out kn h.symm; omega)).trans HN5.out
   have hb56 := hbut.out.trans HB5.out
   have hbut6 : But (fun b => b = kn) w w6 := ⟨hgrow6.os.trans hb56.os, hgrow6.tape.trans hb56.tape, hgrow6.output.trans hb56.output, Nat.le_trans hb56.size hgrow6.size, fun b hb hx => (hgrow6.block b (Nat.lt_of_lt_of_le hb hb56.size) (fun h => by have := HOWN5.out b h.symm; omega)).trans (hb56.block b hb hx)⟩
   have HSN := Lib.hid hsnoc
   have HBL6 := Lib.hid hblk6
   have HBU6 := Lib.hid hbut6
   clear hown6 hgrow6 hat6 hlt6 hsnoc hblk6 hbut6 hb56
   go_wp2_with fail
   have hcnt := few_cnt x.kids (deep - 1) (m - 1)
   exact ⟨⟨k + 1, (fewL (deep - 1) (m - 1) x.kids).2, done ++ [cutN x (fewL (deep - 1) (m - 1) x.kids).1], by simp, by omega, by omega, HSN, HBL6, HBU6, Lib.hid (by rw [HG.out]; simp), by rw [List.length_append]; simp; omega⟩, by simp only [intOf]; omega⟩
 obtain rfl : k = n := by omega
 have hdec : decide ((k : Int) < (k : Int)) = false := by simp
 have HG : Hid (R = (done, m)) := Lib.hid (by rw [hgo.out, List.drop_eq_nil_of_le (by rw [HN.out]; exact Nat.le_refl _), fewL_nil]; simp)
 clear hgo
 go_wp2_with fail
 go_ret
 exact ⟨_, rfl, by rw [HG.out]; exact hown.out, by rw [HG.out]; exact hblk.out, hbut.out⟩
theorem few_all (B0 kn : Nat) : ∀ (m : Nat) (l : List Nd), cntL l < m → FewOk B0 kn l
 | 0, l, h => by omega
 | m + 1, l, h => few_step B0 kn l (fun y hy => few_all B0 kn m y.kids (by have := cnt_mem hy; omega))
theorem few_any (B0 kn : Nat) (l : List Nd) : FewOk B0 kn l := few_all B0 kn (cntL l + 1) l (by omega)
end Tr
end Go.Proofs.YtmmgfifpjifjnaaGreatDoor
namespace Go.Proofs.YtmmgfifpjifjnaaGreatDoor
open Go.RowKit
namespace Tr
open Bs Sm
theorem run_rd {α : Type} {f : α → Value} {S : Nat → Prop} (hf : ∀ x, (f x).oneCell' = true) {P : Program} {w : World} (t ty e : TypeId) (tsl : P.underlying t = some (.slice e)) (i0 : TypeInfo) (z : Value) (bytes : Nat)
  (h2 : P.info? e = some i0) (h3 : i0.zero = some z) (h4 : i0.size = 1) (h5 : i0.bytes = bytes) (h6 : z.cells.size = 1) {B0 n : Nat} {v xv : Value} {xs : List Value} {l : List α}
  (hd : w.ownsRow B0 e 1 v n xs) (hs : Rd S f w xv l) (b1 : n + l.length ≤ maxLen) (b2 : (n + l.length) * bytes ≤ 140737488355328) (hB : B0 ≤ w.heap.size) :
  ∃ v' w', (Builtin.append_ #[t, t] ty #[v, xv]).run P w = .ok v' w' ∧ w'.ownsRow B0 e 1 v' (n + l.length) (xs ++ l.map f) ∧ w.grownBy w' v.ownBlock ∧ (v'.ownBlock = v.ownBlock ∨ v'.ownBlock = some w.heap.size) := by
 obtain ⟨a, cap, rfl, hc, hm, hnone, hcell⟩ := hs
 cases a with
 | none =>
  obtain rfl := hnone rfl
  obtain rfl : l = [] := List.eq_nil_of_length_eq_zero (by omega)
  exact ⟨v, w, run_append_owned_none (P := P) (w := w) B0 t ty e i0 1 tsl h2 v n xs hd, by simpa using hd, ⟨rfl, rfl, rfl, Nat.le_refl _, fun _ _ _ => rfl⟩, .inl rfl⟩
 | some ad =>
  obtain ⟨v', w', hrun, r1, r2, _, r3⟩ := run_append_own_at (P := P) w B0 t ty e i0 z 1 bytes tsl h2 h3 h4 h5 h6 (by decide) v n xs hd ad l.length cap (l.map f) (by simp) (fun j u hj => by
   rw [List.getElem?_map] at hj
   obtain ⟨x, hx, rfl⟩ := Option.map_eq_some_iff.1 hj
   have hjl := (List.getElem?_eq_some_iff.1 hx).1
   obtain ⟨b, off, hab, _, _, hcc⟩ := hcell (by omega)
   cases hab
   have e : (⟨b, off, none⟩ : Addr).add j = ⟨b, off + j, none⟩ := by unfold Addr.add; split <;> simp_all
   rw [e]
   exact hcc j x hx) (fun u hu => by obtain ⟨x, _, rfl⟩ := List.mem_map.1 hu; exact hf x) b1 b2 hB
  exact ⟨v', w', hrun, r1, r2, r3⟩
theorem wpList_rd {α : Type} {f : α → Value} {S : Nat → Prop} (hf : ∀ x, (f x).oneCell' = true) {P : Program} (w : World) {ops : Array Oper} {rest : List Oper} {o : Oper} {a : Act} {Q : Exit → Act → World → Prop} (hw : Region.wanted o (yielded ops a.tmps) = true) (s x : Operand) (t e : TypeId)
  (hop : o.op = Op.call { callee := Callee.builtin Builtin.append, args := #[s, x], argTypes := #[t, t] }) (tsl : P.underlying t = some (.slice e)) (i0 : TypeInfo) (z : Value) (bytes : Nat)
  (h2 : P.info? e = some i0) (h3 : i0.zero = some z) (h4 : i0.size = 1) (h5 : i0.bytes = bytes) (h6 : z.cells.size = 1) {B0 n : Nat} {v xv : Value} {xs : List Value} {l : List α}
  (hd : w.ownsRow B0 e 1 v n xs) (hs : a.eval s = v) (hx : a.eval x = xv) (hsrc : Rd S f w xv l) (b1 : n + l.length ≤ maxLen) (b2 : (n + l.length) * bytes ≤ 140737488355328) (hB : B0 ≤ w.heap.size)
  (hK : ∀ v' w', w'.ownsRow B0 e 1 v' (n + l.length) (xs ++ l.map f) → w.grownBy w' v.ownBlock → (v'.ownBlock = v.ownBlock ∨ v'.ownBlock = some w.heap.size) → wpList P ops Q rest (a.put o.dst v') w') :
  wpList P ops Q (o :: rest) a w := by
 refine Go.BigFrame.wpList_want hw fun K' hK' => ?_
 obtain ⟨v', w', hrun, r1, r2, r3⟩ := run_rd hf t o.type e tsl i0 z bytes h2 h3 h4 h5 h6 hd hsrc b1 b2 hB
 unfold Oper.wp
 simp [execOp, hop, resolve, invoke, builtin, hs, hx, hrun, Result.andThen]
 exact hK' _ _ (hK v' w' r1 r2 r3)
theorem step_rd {α : Type} {f : α → Value} {S : Nat → Prop} (hf : ∀ x, (f x).oneCell' = true) {P : Program} {w : World} {ops : Array Oper} {o : Oper} {a : Act} {K : Act → World → Prop} {Q : Exit → Act → World → Prop} {E' : Prop} (hg : o.guard = none) (s x : Operand) (t e : TypeId)
  (hop : o.op = Op.call { callee := Callee.builtin Builtin.append, args := #[s, x], argTypes := #[t, t] }) (tsl : P.underlying t = some (.slice e)) (i0 : TypeInfo) (z : Value) (bytes : Nat)
  (h2 : P.info? e = some i0) (h3 : i0.zero = some z) (h4 : i0.size = 1) (h5 : i0.bytes = bytes) (h6 : z.cells.size = 1) {B0 n : Nat} {v xv : Value} {xs : List Value} {l : List α}
  (hd : w.ownsRow B0 e 1 v n xs) (hs : a.eval s = v) (hx : a.eval x = xv) (hsrc : Rd S f w xv l) (b1 : n + l.length ≤ maxLen) (b2 : (n + l.length) * bytes ≤ 140737488355328) (hB : B0 ≤ w.heap.size)
  (hK : ∀ v' w', w'.ownsRow B0 e 1 v' (n + l.length) (xs ++ l.map f) → w.grownBy w' v.ownBlock → (v'.ownBlock = v.ownBlock ∨ v'.ownBlock = some w.heap.size) → K (a.put o.dst v') w') :
  if Region.wanted o (yielded ops a.tmps) = true then Oper.wp P o a w K Q else E' := by
 have hw : Region.wanted o (yielded ops a.tmps) = true := by simp [Region.wanted, hg]
 rw [if_pos hw]
 obtain ⟨v', w', hrun, r1, r2, r3⟩ := run_rd hf t o.type e tsl i0 z bytes h2 h3 h4 h5 h6 hd hsrc b1 b2 hB
 unfold Oper.wp
 simp [execOp, hop, resolve, invoke, builtin, hs, hx, hrun, Result.andThen]
 exact hK v' w' r1 r2 r3
theorem take_snoc {l : List Nd} {k : Nat} {x : Nd} (hx : l[k]? = some x) : l.take (k + 1) = l.take k ++ [x] := by rw [List.take_add_one, hx]; rfl
def NodesOk (l : List Nd) : Prop := ∀ (v : Value) (w : World), Tree (fun _ => True) w v l →
 Calls Tryz.prog 21 #[v] w (fun e w' => Below w.heap.size w w' ∧ ∃ v', e = .returned v' ∧ OwnT 94 w.heap.size (fun b => w.heap.size ≤ b) w' v' l)
set_option maxRecDepth 100000 in
set_option maxHeartbeats 6400000 in
theorem nodes_step (l : List Nd) (hmild : Mild l) (IH : ∀ y ∈ l, NodesOk y.kids) : NodesOk l := by
 intro v w hl
 obtain ⟨i0, hi0, hz0, hz1, hz2⟩ := info_parts (show (Tryz.prog.info? 94).map (fun i => (i.zero, i.size, i.bytes)) = some (some (.agg #[.int .i64 0, .string ⟨#[]⟩, .int .i64 0, .slice none 0 0, .slice none 0 0, .int .i64 0]), 6, 88) by kernel_rfl)
 have tsl : Tryz.prog.underlying 31 = some (.slice 94) := by kernel_rfl
 obtain ⟨iI, hiI, hI0, hI1, hI2⟩ := info_parts (show (Tryz.prog.info? 9).map (fun i => (i.zero, i.size, i.bytes)) = some (some (.string ⟨#[]⟩), 1, 16) by kernel_rfl)
 have tI : Tryz.prog.underlying 22 = some (.slice 9) := by kernel_rfl
 obtain ⟨a, c, rfl, hc, hm⟩ := hl.form
 obtain ⟨n, hn⟩ : ∃ n, l.length = n := ⟨_, rfl⟩
 have HN := Lib.hid hn
 have hn200 : n ≤ 201 := by rw [← hn]; exact hmild.len
 rw [hn] at hl ⊢
 have HL := Lib.hid hl
 have HM := Lib.hid hmild
 replace IH := Lib.hid IH
 clear hl hn hmild hm hc
 go_enter Tryz.func21, Tryz.ntmps21
 go_wp2_with fail
 go_loopw [3, 8] (fun o y wr => ∃ (k : Nat), y = .int .i64 (k : Int) ∧ k ≤ n ∧ Hid (OwnT 94 w.heap.size (fun b => w.heap.size ≤ b) wr o (l.take k)) ∧ Below w.heap.size w wr) (fun _ y _ => n - (intOf y).toNat)
 case atStart => exact ⟨0, rfl, Nat.zero_le _, Lib.hid (by rw [List.take_zero]; exact OwnT.nil _ _ _ _), Below.refl _ _⟩
 obtain ⟨k, rfl, hk, hown, hbr⟩ := hrel
 by_cases hkn : k < n
 · have hdec : decide ((k : Int) < (n : Int)) = true := by simpa using hkn
   have hkw : IntKind.i64.wrap ((k : Int) + 1) = (k : Int) + 1 := IntWalk.i64_in _ (by omega)
   obtain ⟨gb, off, x, ka, kc, na, nc, rfl, hx, hgb, -, ⟨c0, c1, c2, c3, c4, c5⟩, hkt, hnt⟩ := (HL.out.bel hbr).nth k hkn
   have hxl := List.mem_of_getElem? hx
   have hfair := (HM.out.fair x (mem_all hxl)).2.1
   have HIH := Lib.hid (IH.out x hxl)
   have HTK := Lib.hid (take_snoc hx)
   have HTL : Hid ((l.take k).length = k) := Lib.hid (by rw [List.length_take, HN.out]; omega)
   go_upto_region 5 with fail
   have hX5 := alloc_bel wr (.cells #[.int .i64 x.kind, .string ⟨x.name.toArray⟩, .int .i64 x.num, .slice ka x.kids.length kc, .slice na x.names.length nc, .int .i64 x.at_] 53)
   have hk5 := Blk.made (T := 53) (cs := #[.int .i64 x.kind, .string ⟨x.name.toArray⟩, .int .i64 x.num, .slice ka x.kids.length kc, .slice na x.names.length nc, .int .i64 x.at_]) wr
   have hz5 : (wr.alloc (.cells #[.int .i64 x.kind, .string ⟨x.name.toArray⟩, .int .i64 x.num, .slice ka x.kids.length kc, .slice na x.names.length nc, .int .i64 x.at_] 53)).heap.size = wr.heap.size + 1 := by simp
   have hO5 := hown.out.bel hX5
   have HKT := Lib.hid (hkt.bel hX5)
   have HNT := Lib.hid (hnt.below hX5)
   obtain ⟨W5, hW5⟩ : ∃ W, wr.alloc (.cells #[.int .i64 x.kind, .string ⟨x.name.toArray⟩, .int .i64 x.num, .slice ka x.kids.length kc, .slice na x.names.length nc, .int .i64 x.at_] 53) = W := ⟨_, rfl⟩
   rw [hW5] at hX5 hk5 hz5 hO5 HKT HNT ⊢
   obtain ⟨KB, hKB⟩ : ∃ b, wr.heap.size = b := ⟨_, rfl⟩
   rw [hKB] at hk5 hz5 ⊢
   have hwKB : w.heap.size ≤ KB := by rw [← hKB]; exact hbr.size
   obtain ⟨vl, hvl, hrow, hsub⟩ := hO5
   have hown5 : ∀ b, u3.ownBlock = some b → w.heap.size ≤ b ∧ b < KB := fun b hb => by
    obtain ⟨vl', -, hr', -⟩ := hown.out
    have := hr'.lt b hb
    omega
   have hvll : vl.length = k := by have h := congrArg List.length hvl; rw [List.length_map, HTL.out] at h; exact h
   rw [hvll] at hrow
   have HVL := Lib.hid hvl
   have HVLL := Lib.hid hvll
   have HROW := Lib.hid hrow
   have HSUB := Lib.hid hsub
   have HOWN5 := Lib.hid hown5
   have HK5 := Lib.hid hk5
   have hbr5 := hbr.trans (hX5.mono hbr.size)
   have HBR5 := Lib.hid hbr5
   have hkl := hk5.lt
   have hS : ∀ v, Below W5.heap.size W5 v → (v.cell? ⟨KB, 0, none⟩ = some (.int .i64 x.kind) ∧ v.cell? ⟨KB, 1, none⟩ = some (.string ⟨x.name.toArray⟩) ∧ v.cell? ⟨KB, 2, none⟩ = some (.int .i64 x.num) ∧ v.cell? ⟨KB, 3, none⟩ = some (.slice ka x.kids.length kc) ∧ v.cell? ⟨KB, 4, none⟩ = some (.slice na x.names.length nc) ∧ v.cell? ⟨KB, 5, none⟩ = some (.int .i64 x.at_)) := fun v hv =>
    have h := HK5.out.below hv hkl
    ⟨h.c 0 _ rfl, h.c 1 _ rfl, h.c 2 _ rfl, h.c 3 _ rfl, h.c 4 _ rfl, h.c 5 _ rfl⟩
   clear hW5 hKB hX5 hk5 hvl hvll hrow hsub hown5 hown hkt hnt hx hxl c0 c1 c2 c3 c4 c5 hbr hbr5
   refine wp_region_noPanic ?_
   refine Hd.start (fun v => v.cell? ⟨KB, 0, none⟩ = some (.int .i64 x.kind) ∧ v.cell? ⟨KB, 1, none⟩ = some (.string ⟨x.name.toArray⟩) ∧ v.cell? ⟨KB, 2, none⟩ = some (.int .i64 x.num) ∧ v.cell? ⟨KB, 3, none⟩ = some (.slice ka x.kids.length kc) ∧ v.cell? ⟨KB, 4, none⟩ = some (.slice na x.names.length nc) ∧ v.cell? ⟨KB, 5, none⟩ = some (.int .i64 x.at_)) (by kernel_rfl) (hS _ (Below.refl _ W5).drew) (fun hH0 => ?_)
   refine Hd.tk 0 18 hH0 ?_
   refine Hd.tk 1 2 hH0 ?_
   refine Hd.tk 2 16 hH0 ?_
   refine Hd.tk 3 4 hH0 ?_
   refine Hd.tk 4 16 hH0 ?_
   refine Hd.tk 5 6 hH0 ?_
   refine Hd.tk 6 16 hH0 ?_
   refine Hd.tk 7 8 hH0 ?_
   refine Hd.tk 8 9 hH0 ?_
   refine Hd.tk 11 12 hH0 ?_
   refine Hd.tk 12 13 hH0 ?_
   refine Hd.tk 14 15 hH0 ?_
   refine Hd.tk 15 16 hH0 ?_
   refine Hd.two 9 10 (o := ?_) (p := ?_) ?_ ?_ (by kernel_rfl) (fun K hK => ?_) (fun K hK => ?_)
   rotate_left 2
   · simp only [Hd.ga, Hd.gs, Hd.gz]
     exact rfl
   · simp only [Hd.ga, Hd.gs, Hd.gz]
     exact rfl
   · skip
     go_simp
     refine (HIH.out _ _ (HKT.out.bel (Below.refl _ W5).drew)).mono ?_; rintro e w6 ⟨hb6, v6, rfl, hO6⟩
     have hT6 := hO6.tree
     have hlo6 : ∀ g, v6.ownBlock = some g → W5.heap.size ≤ g := fun g hg => by obtain ⟨vl6, -, ho6, -⟩ := hO6; exact (ho6.lt g hg).1
     obtain ⟨fo, fl, fc, rfl⟩ : ∃ a b c, v6 = .slice a b c := by obtain ⟨vl6, -, ho6, -⟩ := hO6; obtain ⟨ao, co, h, -⟩ := own_slice ho6; exact ⟨_, _, _, h⟩
     have hb6' : Below W5.heap.size W5 w6 := (Below.refl _ W5).drew.trans (hb6.mono (Nat.le_refl _))
     have hX7 := alloc_bel w6 (.cells #[] 9)
     have HB6 := Lib.hid hb6'
     have HB7 := Lib.hid (hb6'.trans (hX7.mono hb6'.size))
     have HE7 := Lib.hid (own_mono (World.ownsRow_made (e := 9) (size := 1) w6 #[] 0 (Nat.le_refl _) (by unfold maxLen; omega) rfl) hb6'.size)
     have HT7 := Lib.hid ((hT6.mono (S' := fun b => W5.heap.size ≤ b ∧ some w6.heap.size ≠ some b) (fun b hb hl => ⟨by rcases hb with hb | hb; exact hb; exact hlo6 b hb, fun h => by cases h; omega⟩)).bel hX7)
     clear hO6 hT6 hlo6 hb6 hb6' hX7
     go_wp2_with fail
     refine hK.out _ _ (hS _ HB6.out) (fun hH1 => ?_)
     clear hK K
     try simp only [Act.put, Hd.sa, Hd.sz, Hd.ss]
     refine Hd.on 10 (fun K hK => ?_)
     go_simp
     refine hK.out _ _ (hS _ HB7.out) (fun hH2 => ?_)
     clear hK K
     try simp only [Act.put, Hd.sa, Hd.sz, Hd.ss]
     refine Hd.on 13 (fun K hK => ?_)
     refine step_rd (S := fun _ => True) (f := strV) (fun _ => rfl) rfl (.tmp 22) (.tmp 24) 22 9 rfl tI iI (.string ⟨#[]⟩) 16 hiI hI0 hI1 hI2 rfl (by exact HE7.out) (by simp [Act.eval]) (by simp [Act.eval]) (HNT.out.below HB7.out) (by unfold maxLen; omega) (by omega) (by exact HB7.out.size) ?_
     intro v8 w8 hown8 hg8 _
     have hb8 := HB7.out.grown hg8 HB7.out.size (fun k hk => (HE7.out.lt k hk).1)
     have hN8 : w8.ownsRow W5.heap.size 9 1 v8 x.names.length (x.names.map strV) := by simpa using hown8
     have hT8 : Tree (fun b => W5.heap.size ≤ b) w8 (.slice fo fl fc) x.kids := (HT7.out.kp ⟨hg8.size, fun b hb hl => hg8.block b hl (fun e => hb.2 e.symm)⟩).mono (fun b hb _ => hb.1)
     obtain ⟨lo, ln, lc, rfl⟩ : ∃ a b c, v8 = .slice a b c := by obtain ⟨fo, fc, h, -⟩ := own_slice hN8; exact ⟨_, _, _, h⟩
     have HB8 := Lib.hid hb8
     have HR8 := Lib.hid (Rd.of hN8)
     have HT8 := Lib.hid hT8
     clear hown8 hg8 hb8 hN8 hT8
     refine hK.out _ _ (hS _ HB8.out) (fun hH3 => ?_)
     clear hK K
     try simp only [Act.put, Hd.sa, Hd.sz, Hd.ss]
     refine Hd.tk 16 17 hH3 ?_
     have hX9 := alloc_bel w8 (.cells #[.int .i64 x.kind, .string ⟨x.name.toArray⟩, .int .i64 x.num, .slice fo fl fc, .slice lo ln lc, .int .i64 x.at_] 94)
     have HB9 := Lib.hid (HB8.out.trans (hX9.mono HB8.out.size))
     have HX9 := Lib.hid hX9
     clear hX9
     refine Hd.on 17 (fun K hK => ?_)
     go_simp
     refine hK.out _ _ (hS _ HB9.out) (fun hH4 => ?_)
     clear hK K
     try simp only [Act.put, Hd.sa, Hd.sz, Hd.ss]
     have HR9 := Lib.hid (own_below HROW.out HB9.out)
     have hsz9 := HB9.out.size
     have hsz8 := HB8.out.size
     refine Hd.on 18 (fun K hK => ?_)
     refine step_append_lies _ rfl (.tmp 12) (.tmp 29) 31 rfl w.heap.size 94 i0 (.agg #[.int .i64 0, .string ⟨#[]⟩, .int .i64 0, .slice none 0 0, .slice none 0 0, .int .i64 0]) 6 88 tsl hi0 hz0 hz1 hz2 rfl (by decide) _ k (flatN vl) (by simp [Act.eval]) HR9.out ⟨w8.heap.size, 0, none⟩ 1 1 [.int .i64 x.kind, .string ⟨x.name.toArray⟩, .int .i64 x.num, .slice fo fl fc, .slice lo ln lc, .int .i64 x.at_] (by simp [Act.eval]) rfl (cells6 w8 94 _ _ _ _ _ _) (fun u hu => by simp at hu; rcases hu with rfl | rfl | rfl | rfl | rfl | rfl <;> rfl) (by decide) (by unfold maxLen; omega) (by omega) (by omega) _ rfl ?_
     intro g cap w10 hown10 hg10 hat10 hlt10
     have hm9 : ∀ b, W5.heap.size ≤ b → (w.heap.size ≤ b ∧ u3.ownBlock ≠ some b) := fun b hb => ⟨by omega, fun h => by have := HOWN5.out b h; omega⟩
     have hsn := own_snoc (n := k) (S := fun b => w.heap.size ≤ b) (x := x) (kv := .slice fo fl fc) (nv := .slice lo ln lc) HVLL.out.symm hg10.size (fun y hy => ⟨(HSUB.out y hy).1.bel HB9.out, (HSUB.out y hy).2.below HB9.out⟩) ((HT8.out.bel HX9.out).mono (fun b hb _ => hm9 b hb)) ((HR8.out.below HX9.out).mono (fun b hb _ => hm9 b hb)) hown10 hg10 hat10
     rw [HVL.out, ← HTK.out] at hsn
     have hk10 := (hg10.block KB (HK5.out.below HB9.out hkl).lt (fun e => by have := HOWN5.out KB e.symm; omega)).trans (HK5.out.below HB9.out hkl)
     have hb59 := HBR5.out.trans (HB9.out.mono HBR5.out.size)
     have hb10 := hb59.grown hg10 hb59.size (fun k hk => (HOWN5.out k hk).1)
     have HSN := Lib.hid hsn
     have HB10 := Lib.hid hb10
     have HK10 := Lib.hid (show Blk 53 KB #[.int .i64 x.kind, .string ⟨x.name.toArray⟩, .int .i64 x.num, .slice ka x.kids.length kc, .slice na x.names.length nc, .int .i64 x.at_] w10 from hk10)
     clear hown10 hg10 hat10 hlt10 hsn hk10 hb10 hb59 hm9 hsz9 hsz8
     refine hK.out _ _ ⟨HK10.out.c 0 _ rfl, HK10.out.c 1 _ rfl, HK10.out.c 2 _ rfl, HK10.out.c 3 _ rfl, HK10.out.c 4 _ rfl, HK10.out.c 5 _ rfl⟩ (fun hH5 => ?_)
     clear hK K
     try simp only [Act.put, Hd.sa, Hd.sz, Hd.ss]
     refine Hd.la 19 (fun K hK => ?_)
     go_simp
     refine hK.out _ _ ?_
     clear hK K
     try simp only [Act.put, Hd.sa, Hd.sz, Hd.ss]
     simp only [NoPanic]
     clear hS
     go_wp2_with fail
     exact ⟨⟨k + 1, by simp, by omega, HSN, HB10.out⟩, by simp only [intOf]; omega⟩
   skip
   go_simp
   have hX6 : Below W5.heap.size W5 (W5.drew.alloc (.cells #[] 9)) := (Below.refl _ W5).drew.alloc (Nat.le_refl _) _
   have HE6 := Lib.hid (World.ownsRow_made (e := 9) (size := 1) W5.drew #[] 0 (Nat.le_refl _) (by unfold maxLen; omega) rfl)
   have HX6 := Lib.hid hX6
   refine hK.out _ _ (hS _ hX6) (fun hH1 => ?_)
   clear hK K hX6
   try simp only [Act.put, Hd.sa, Hd.sz, Hd.ss]
   refine Hd.on 9 (fun K hK => ?_)
   go_simp
   refine (HIH.out _ _ (HKT.out.bel HX6.out)).mono ?_; rintro e w7 ⟨hb7, v6, rfl, hO6⟩
   have hT6 := hO6.tree
   have hlo6 : ∀ g, v6.ownBlock = some g → W5.heap.size + 1 ≤ g := fun g hg => by obtain ⟨vl6, -, ho6, -⟩ := hO6; have := (ho6.lt g hg).1; simpa using this
   obtain ⟨fo, fl, fc, rfl⟩ : ∃ a b c, v6 = .slice a b c := by obtain ⟨vl6, -, ho6, -⟩ := hO6; obtain ⟨ao, co, h, -⟩ := own_slice ho6; exact ⟨_, _, _, h⟩
   have HB7 := Lib.hid (HX6.out.trans (hb7.mono HX6.out.size))
   have HE7 := Lib.hid (own_below HE6.out hb7)
   have HT7 := Lib.hid (hT6.mono (S' := fun b => W5.heap.size ≤ b ∧ some W5.heap.size ≠ some b) (fun b hb hl => by
    have hbb : W5.heap.size + 1 ≤ b := by
     rcases hb with hb | hb
     · simpa using hb
     exact hlo6 b hb
    exact ⟨by omega, fun h => by cases h; omega⟩))
   clear hO6 hT6 hlo6 hb7 HE6
   go_wp2_with fail
   refine hK.out _ _ (hS _ HB7.out) (fun hH2 => ?_)
   clear hK K
   try simp only [Act.put, Hd.sa, Hd.sz, Hd.ss]
   refine Hd.on 13 (fun K hK => ?_)
   refine step_rd (S := fun _ => True) (f := strV) (fun _ => rfl) rfl (.tmp 22) (.tmp 24) 22 9 rfl tI iI (.string ⟨#[]⟩) 16 hiI hI0 hI1 hI2 rfl (by exact HE7.out) (by simp [Act.eval]) (by simp [Act.eval]) (HNT.out.below HB7.out) (by unfold maxLen; omega) (by omega) (by exact HB7.out.size) ?_
   intro v8 w8 hown8 hg8 _
   have hb8 := HB7.out.grown hg8 HB7.out.size (fun k hk => (HE7.out.lt k hk).1)
   have hN8 : w8.ownsRow W5.heap.size 9 1 v8 x.names.length (x.names.map strV) := by simpa using hown8
   have hT8 : Tree (fun b => W5.heap.size ≤ b) w8 (.slice fo fl fc) x.kids := (HT7.out.kp ⟨hg8.size, fun b hb hl => hg8.block b hl (fun e => hb.2 e.symm)⟩).mono (fun b hb _ => hb.1)
   obtain ⟨lo, ln, lc, rfl⟩ : ∃ a b c, v8 = .slice a b c := by obtain ⟨fo, fc, h, -⟩ := own_slice hN8; exact ⟨_, _, _, h⟩
   have HB8 := Lib.hid hb8
   have HR8 := Lib.hid (Rd.of hN8)
   have HT8 := Lib.hid hT8
   clear hown8 hg8 hb8 hN8 hT8
   refine hK.out _ _ (hS _ HB8.out) (fun hH3 => ?_)
   clear hK K
   try simp only [Act.put, Hd.sa, Hd.sz, Hd.ss]
   refine Hd.tk 16 17 hH3 ?_
   have hX9 := alloc_bel w8 (.cells #[.int .i64 x.kind, .string ⟨x.name.toArray⟩, .int .i64 x.num, .slice fo fl fc, .slice lo ln lc, .int .i64 x.at_] 94)
   have HB9 := Lib.hid (HB8.out.trans (hX9.mono HB8.out.size))
   have HX9 := Lib.hid hX9
   clear hX9
   refine Hd.on 17 (fun K hK => ?_)
   go_simp
   refine hK.out _ _ (hS _ HB9.out) (fun hH4 => ?_)
   clear hK K
   try simp only [Act.put, Hd.sa, Hd.sz, Hd.ss]
   have HR9 := Lib.hid (own_below HROW.out HB9.out)
   have hsz9 := HB9.out.size
   have hsz8 := HB8.out.size
   refine Hd.on 18 (fun K hK => ?_)
   refine step_append_lies _ rfl (.tmp 12) (.tmp 29) 31 rfl w.heap.size 94 i0 (.agg #[.int .i64 0, .string ⟨#[]⟩, .int .i64 0, .slice none 0 0, .slice none 0 0, .int .i64 0]) 6 88 tsl hi0 hz0 hz1 hz2 rfl (by decide) _ k (flatN vl) (by simp [Act.eval]) HR9.out ⟨w8.heap.size, 0, none⟩ 1 1 [.int .i64 x.kind, .string ⟨x.name.toArray⟩, .int .i64 x.num, .slice fo fl fc, .slice lo ln lc, .int .i64 x.at_] (by simp [Act.eval]) rfl (cells6 w8 94 _ _ _ _ _ _) (fun u hu => by simp at hu; rcases hu with rfl | rfl | rfl | rfl | rfl | rfl <;> rfl) (by decide) (by unfold maxLen; omega) (by omega) (by omega) _ rfl ?_
   intro g cap w10 hown10 hg10 hat10 hlt10
   have hm9 : ∀ b, W5.heap.size ≤ b → (w.heap.size ≤ b ∧ u3.ownBlock ≠ some b) := fun b hb => ⟨by omega, fun h => by have := HOWN5.out b h; omega⟩
   have hsn := own_snoc (n := k) (S := fun b => w.heap.size ≤ b) (x := x) (kv := .slice fo fl fc) (nv := .slice lo ln lc) HVLL.out.symm hg10.size (fun y hy => ⟨(HSUB.out y hy).1.bel HB9.out, (HSUB.out y hy).2.below HB9.out⟩) ((HT8.out.bel HX9.out).mono (fun b hb _ => hm9 b hb)) ((HR8.out.below HX9.out).mono (fun b hb _ => hm9 b hb)) hown10 hg10 hat10
   rw [HVL.out, ← HTK.out] at hsn
   have hk10 := (hg10.block KB (HK5.out.below HB9.out hkl).lt (fun e => by have := HOWN5.out KB e.symm; omega)).trans (HK5.out.below HB9.out hkl)
   have hb59 := HBR5.out.trans (HB9.out.mono HBR5.out.size)
   have hb10 := hb59.grown hg10 hb59.size (fun k hk => (HOWN5.out k hk).1)
   have HSN := Lib.hid hsn
   have HB10 := Lib.hid hb10
   have HK10 := Lib.hid (show Blk 53 KB #[.int .i64 x.kind, .string ⟨x.name.toArray⟩, .int .i64 x.num, .slice ka x.kids.length kc, .slice na x.names.length nc, .int .i64 x.at_] w10 from hk10)
   clear hown10 hg10 hat10 hlt10 hsn hk10 hb10 hb59 hm9 hsz9 hsz8
   refine hK.out _ _ ⟨HK10.out.c 0 _ rfl, HK10.out.c 1 _ rfl, HK10.out.c 2 _ rfl, HK10.out.c 3 _ rfl, HK10.out.c 4 _ rfl, HK10.out.c 5 _ rfl⟩ (fun hH5 => ?_)
   clear hK K
   try simp only [Act.put, Hd.sa, Hd.sz, Hd.ss]
   refine Hd.la 19 (fun K hK => ?_)
   go_simp
   refine hK.out _ _ ?_
   clear hK K
   try simp only [Act.put, Hd.sa, Hd.sz, Hd.ss]
   simp only [NoPanic]
   clear hS
   go_wp2_with fail
   exact ⟨⟨k + 1, by simp, by omega, HSN, HB10.out⟩, by simp only [intOf]; omega⟩
 obtain rfl : k = n := by omega
 have hdec : decide ((k : Int) < (k : Int)) = false := by simp
 have hall : l.take k = l := List.take_of_length_le (by rw [HN.out]; exact Nat.le_refl _)
 rw [hall] at hown
 clear hall
 go_wp2_with fail
 go_ret
 exact ⟨hbr, _, rfl, hown.out⟩
theorem nodes_all : ∀ (m : Nat) (l : List Nd), cntL l < m → Mild l → NodesOk l
 | 0, l, h, _ => by omega
 | m + 1, l, h, hm => nodes_step l hm (fun y hy => nodes_all m y.kids (by have := cnt_mem hy; omega) (hm.kids hy))
theorem nodes_any (l : List Nd) (hm : Mild l) : NodesOk l := nodes_all (cntL l + 1) l (by omega) hm
end Tr
end Go.Proofs.YtmmgfifpjifjnaaGreatDoor
namespace Go.Proofs.YtmmgfifpjifjnaaGreatDoor
open Go.RowKit
namespace Tr
open Bs Sm
set_option maxRecDepth 100000 in
set_option maxHeartbeats 6400000 in
theorem own_any (m : Mt) (hmild : Mild m.body) (hpl : m.params.length ≤ 15) (htl : m.temps.length ≤ 15) (pv tv bv : Value) (w : World) (hm : MtAt (fun _ => True) w m pv tv bv) :
  Calls Tryz.prog 9 #[mtV m pv tv bv] w (fun e w' => Below w.heap.size w w' ∧ ∃ pv' tv' bv', e = .returned (mtV m pv' tv' bv') ∧ Rd (fun b => w.heap.size ≤ b) strV w' pv' m.params ∧ Rd (fun b => w.heap.size ≤ b) strV w' tv' m.temps ∧ OwnT 94 w.heap.size (fun b => w.heap.size ≤ b) w' bv' m.body) := by
 obtain ⟨iI, hiI, hI0, hI1, hI2⟩ := info_parts (show (Tryz.prog.info? 9).map (fun i => (i.zero, i.size, i.bytes)) = some (some (.string ⟨#[]⟩), 1, 16) by kernel_rfl)
 have tI : Tryz.prog.underlying 22 = some (.slice 9) := by kernel_rfl
 obtain ⟨pa, pc, rfl, -, -⟩ := hm.params.form
 obtain ⟨ta, tc, rfl, -, -⟩ := hm.temps.form
 obtain ⟨ba, bc, rfl, -, -⟩ := hm.body.form
 have HND := Lib.hid (nodes_any m.body hmild)
 obtain ⟨pl, hp⟩ : ∃ q, m.params.length = q := ⟨_, rfl⟩
 obtain ⟨tl, ht⟩ : ∃ q, m.temps.length = q := ⟨_, rfl⟩
 obtain ⟨bl, hbl⟩ : ∃ q, m.body.length = q := ⟨_, rfl⟩
 obtain ⟨hmp, hmt, hmb⟩ := hm
 have HP := Lib.hid hp
 have HT := Lib.hid ht
 unfold mtV
 rw [hp] at hmp hpl ⊢
 rw [ht] at hmt htl ⊢
 rw [hbl] at hmb ⊢
 have hX1 := alloc_bel w (.cells #[.string ⟨m.name.toArray⟩, .slice pa pl pc, .slice ta tl tc, .int .i64 m.prim, .slice ba bl bc, .int .i64 m.at_] 25)
 have hX2 := alloc_bel (w.alloc (.cells #[.string ⟨m.name.toArray⟩, .slice pa pl pc, .slice ta tl tc, .int .i64 m.prim, .slice ba bl bc, .int .i64 m.at_] 25)) (.cells #[.string ⟨#[]⟩, .slice none 0 0, .slice none 0 0, .int .i64 0, .slice none 0 0, .int .i64 0] 33)
 have hX := hX1.trans (hX2.mono hX1.size)
 have hk1 := (Blk.made (T := 25) (cs := #[.string ⟨m.name.toArray⟩, .slice pa pl pc, .slice ta tl tc, .int .i64 m.prim, .slice ba bl bc, .int .i64 m.at_]) w).alloc (.cells #[.string ⟨#[]⟩, .slice none 0 0, .slice none 0 0, .int .i64 0, .slice none 0 0, .int .i64 0] 33)
 have hk2 := Blk.made (T := 33) (cs := #[.string ⟨#[]⟩, .slice none 0 0, .slice none 0 0, .int .i64 0, .slice none 0 0, .int .i64 0]) (w.alloc (.cells #[.string ⟨m.name.toArray⟩, .slice pa pl pc, .slice ta tl tc, .int .i64 m.prim, .slice ba bl bc, .int .i64 m.at_] 25))
 have hz1 : (w.alloc (.cells #[.string ⟨m.name.toArray⟩, .slice pa pl pc, .slice ta tl tc, .int .i64 m.prim, .slice ba bl bc, .int .i64 m.at_] 25)).heap.size = w.heap.size + 1 := by simp
 have hz2 : ((w.alloc (.cells #[.string ⟨m.name.toArray⟩, .slice pa pl pc, .slice ta tl tc, .int .i64 m.prim, .slice ba bl bc, .int .i64 m.at_] 25)).alloc (.cells #[.string ⟨#[]⟩, .slice none 0 0, .slice none 0 0, .int .i64 0, .slice none 0 0, .int .i64 0] 33)).heap.size = w.heap.size + 2 := by simp
 rw [hz1] at hk2
 have HMP := Lib.hid (hmp.below hX)
 have HMT := Lib.hid (hmt.below hX)
 have HMB := Lib.hid (hmb.bel hX)
 have HX := Lib.hid hX
 have HK1 := Lib.hid hk1
 have HK2 := Lib.hid hk2
 have HZ2 := Lib.hid hz2
 clear hp ht hbl hmp hmt hmb hX1 hX2 hX hk1 hk2 hz1 hz2 hmild
 go_enter Tryz.func9, Tryz.ntmps9
 go_upto_region 1 with fail
 have hX5 := HX.out
 have hk5 := HK1.out
 have hr5 := HK2.out
 have hz5 := HZ2.out
 have hp5 := HMP.out
 have ht5 := HMT.out
 have hb5 := HMB.out
 clear HX HK1 HK2 HZ2 HMP HMT HMB
 obtain ⟨W5, hW5⟩ : ∃ W, (w.alloc (.cells #[.string ⟨m.name.toArray⟩, .slice pa pl pc, .slice ta tl tc, .int .i64 m.prim, .slice ba bl bc, .int .i64 m.at_] 25)).alloc (.cells #[.string ⟨#[]⟩, .slice none 0 0, .slice none 0 0, .int .i64 0, .slice none 0 0, .int .i64 0] 33) = W := ⟨_, rfl⟩
 rw [hW5] at hX5 hk5 hr5 hz5 hp5 ht5 hb5 ⊢
 obtain ⟨KM, hKM⟩ : ∃ b, w.heap.size = b := ⟨_, rfl⟩
 rw [hKM] at hk5 hr5 hz5 ⊢
 have HX5 := Lib.hid hX5
 have HK5 := Lib.hid hk5
 have HR5 := Lib.hid hr5
 have HMP := Lib.hid hp5
 have HMT := Lib.hid ht5
 have HMB := Lib.hid hb5
 have hkl := hk5.lt
 have hrl := hr5.lt
 have hS : ∀ v, Below W5.heap.size W5 v → (v.cell? ⟨KM, 0, none⟩ = some (.string ⟨m.name.toArray⟩) ∧ v.cell? ⟨KM, 1, none⟩ = some (.slice pa pl pc) ∧ v.cell? ⟨KM, 2, none⟩ = some (.slice ta tl tc) ∧ v.cell? ⟨KM, 3, none⟩ = some (.int .i64 m.prim) ∧ v.cell? ⟨KM, 4, none⟩ = some (.slice ba bl bc) ∧ v.cell? ⟨KM, 5, none⟩ = some (.int .i64 m.at_)) := fun v hv =>
  have h := HK5.out.below hv hkl
  ⟨h.c 0 _ rfl, h.c 1 _ rfl, h.c 2 _ rfl, h.c 3 _ rfl, h.c 4 _ rfl, h.c 5 _ rfl⟩
 clear hW5 hX5 hk5 hr5 hp5 ht5 hb5
 refine wp_region_noPanic ?_
 refine Hd.start (fun v => v.cell? ⟨KM, 0, none⟩ = some (.string ⟨m.name.toArray⟩) ∧ v.cell? ⟨KM, 1, none⟩ = some (.slice pa pl pc) ∧ v.cell? ⟨KM, 2, none⟩ = some (.slice ta tl tc) ∧ v.cell? ⟨KM, 3, none⟩ = some (.int .i64 m.prim) ∧ v.cell? ⟨KM, 4, none⟩ = some (.slice ba bl bc) ∧ v.cell? ⟨KM, 5, none⟩ = some (.int .i64 m.at_)) (by kernel_rfl) (hS _ (Below.refl _ W5).drew) (fun hH0 => ?_)
 refine Hd.tk 0 1 hH0 ?_
 refine Hd.tk 1 17 hH0 ?_
 refine Hd.tk 3 4 hH0 ?_
 refine Hd.tk 4 5 hH0 ?_
 refine Hd.tk 7 8 hH0 ?_
 refine Hd.tk 8 9 hH0 ?_
 refine Hd.tk 10 11 hH0 ?_
 refine Hd.tk 11 17 hH0 ?_
 refine Hd.tk 12 13 hH0 ?_
 refine Hd.tk 13 14 hH0 ?_
 refine Hd.tk 15 16 hH0 ?_
 refine Hd.tk 16 17 hH0 ?_
 refine Hd.two 2 6 (o := ?_) (p := ?_) ?_ ?_ (by kernel_rfl) (fun K hK => ?_) (fun K hK => ?_)
 rotate_left 2
 · simp only [Hd.ga, Hd.gs, Hd.gz]
   exact rfl
 · simp only [Hd.ga, Hd.gs, Hd.gz]
   exact rfl
 · skip
   go_simp
   have hX6 : Below W5.heap.size W5 (W5.drew.alloc (.cells #[] 9)) := (Below.refl _ W5).drew.alloc (Nat.le_refl _) _
   have HE2 := Lib.hid (World.ownsRow_made (e := 9) (size := 1) W5.drew #[] 0 (Nat.le_refl _) (by unfold maxLen; omega) rfl)
   have HB6 := Lib.hid hX6
   refine hK.out _ _ (hS _ hX6) (fun hH1 => ?_)
   clear hK K hX6
   try simp only [Act.put, Hd.sa, Hd.sz, Hd.ss]
   refine Hd.two 5 6 (o := ?_) (p := ?_) ?_ ?_ (by kernel_rfl) (fun K hK => ?_) (fun K hK => ?_)
   rotate_left 2
   · simp only [Hd.ga, Hd.gs, Hd.gz]
     exact rfl
   · simp only [Hd.ga, Hd.gs, Hd.gz]
     exact rfl
   · skip
     refine step_rd (S := fun _ => True) (f := strV) (fun _ => rfl) rfl (.tmp 5) (.tmp 7) 22 9 rfl tI iI (.string ⟨#[]⟩) 16 hiI hI0 hI1 hI2 rfl (by exact HE2.out) (by simp [Act.eval]) (by simp [Act.eval]) (HMP.out.below HB6.out) (by unfold maxLen; have := HP.out; omega) (by have := HP.out; omega) (by exact HB6.out.size) ?_
     intro v5 w6a hown5 hg5 hat5
     have hb5 := HB6.out.grown hg5 HB6.out.size (fun k hk => (HE2.out.lt k hk).1)
     have HB6a := Lib.hid hb5
     have HP5 := Lib.hid (show w6a.ownsRow W5.heap.size 9 1 v5 m.params.length (m.params.map strV) by simpa using hown5)
     clear hown5 hg5 hb5 hat5
     refine hK.out _ _ (hS _ HB6a.out) (fun hH2 => ?_)
     clear hK K
     try simp only [Act.put, Hd.sa, Hd.sz, Hd.ss]
     have hX7 := alloc_bel w6a (.cells #[] 9)
     have HB7 := Lib.hid (HB6a.out.trans (hX7.mono HB6a.out.size))
     have HE7 := Lib.hid (own_mono (World.ownsRow_made (e := 9) (size := 1) w6a #[] 0 (Nat.le_refl _) (by unfold maxLen; omega) rfl) HB6a.out.size)
     have HP7 := Lib.hid (own_below HP5.out hX7)
     have HNE : Hid (v5.ownBlock = none ∨ v5.ownBlock ≠ some w6a.heap.size) := Lib.hid (.inr (fun h => by have := (HP5.out.lt _ h).2; omega))
     clear hX7
     refine Hd.on 6 (fun K hK => ?_)
     go_simp
     refine hK.out _ _ (hS _ HB7.out) (fun hH3 => ?_)
     clear hK K
     try simp only [Act.put, Hd.sa, Hd.sz, Hd.ss]
     obtain ⟨po, pn, pc', rfl⟩ : ∃ a b c, v5 = .slice a b c := by obtain ⟨fo, fc, h, -⟩ := own_slice HP7.out; exact ⟨_, _, _, h⟩
     refine Hd.on 9 (fun K hK => ?_)
     refine step_rd (S := fun _ => True) (f := strV) (fun _ => rfl) rfl (.tmp 9) (.tmp 11) 22 9 rfl tI iI (.string ⟨#[]⟩) 16 hiI hI0 hI1 hI2 rfl (by exact HE7.out) (by simp [Act.eval]) (by simp [Act.eval]) (HMT.out.below HB7.out) (by unfold maxLen; have := HT.out; omega) (by have := HT.out; omega) (by exact HB7.out.size) ?_
     intro v9 w9 hown9 hg9 _
     have HB9 := Lib.hid (HB7.out.grown hg9 HB7.out.size (fun k hk => (HE7.out.lt k hk).1))
     have hT9 : w9.ownsRow W5.heap.size 9 1 v9 m.temps.length (m.temps.map strV) := by simpa using hown9
     have hP9 := World.ownsRow.kept HP7.out hg9 HNE.out
     obtain ⟨uo, un, uc, rfl⟩ : ∃ a b c, v9 = .slice a b c := by obtain ⟨fo, fc, h, -⟩ := own_slice hT9; exact ⟨_, _, _, h⟩
     have HT9 := Lib.hid (Rd.of hT9)
     have HP9 := Lib.hid (Rd.of hP9)
     clear hown9 hg9 hT9 hP9
     refine hK.out _ _ (hS _ HB9.out) (fun hH8 => ?_)
     clear hK K
     try simp only [Act.put, Hd.sa, Hd.sz, Hd.ss]
     refine Hd.on 14 (fun K hK => ?_)
     go_simp
     refine (HND.out _ _ (HMB.out.bel HB9.out)).mono ?_; rintro e w14 ⟨hb14, v14, rfl, hO14⟩
     obtain ⟨fo, fl, fc, rfl⟩ : ∃ a b c, v14 = .slice a b c := by obtain ⟨vl6, -, ho6, -⟩ := hO14; obtain ⟨ao, co, h, -⟩ := own_slice ho6; exact ⟨_, _, _, h⟩
     have hb14' := HB9.out.trans (hb14.mono HB9.out.size)
     have HT14 := Lib.hid (HT9.out.below hb14)
     have HP14 := Lib.hid (HP9.out.below hb14)
     have HO14 := Lib.hid hO14
     have HS14 := Lib.hid (hb14.size)
     have HB14 := Lib.hid hb14'
     have HR14 := Lib.hid (HR5.out.below hb14' hrl)
     clear hb14 hO14 hb14'
     go_wp2_with fail
     refine hK.out _ _ (hS _ HB14.out) (fun hH9 => ?_)
     clear hK K
     try simp only [Act.put, Hd.sa, Hd.sz, Hd.ss]
     refine Hd.tk 17 18 hH9 ?_
     have q0 := HR14.out.c 0 _ rfl
     have q1 := HR14.out.c 1 _ rfl
     have q2 := HR14.out.c 2 _ rfl
     have q3 := HR14.out.c 3 _ rfl
     have q4 := HR14.out.c 4 _ rfl
     have q5 := HR14.out.c 5 _ rfl
     have qf := HR14.out.fz
     have ql := HR14.out.lt
     refine Hd.la 18 (fun K hK => ?_)
     go_simp
     refine hK.out _ _ ?_
     clear hK K
     try simp only [Act.put, Hd.sa, Hd.sz, Hd.ss]
     simp only [NoPanic]
     obtain ⟨W18, hW18⟩ : ∃ W, (((((w14.setCell ⟨KM + 1, 0, none⟩ (.string ⟨m.name.toArray⟩)).setCell ⟨KM + 1, 1, none⟩ (.slice po pn pc')).setCell ⟨KM + 1, 2, none⟩ (.slice uo un uc)).setCell ⟨KM + 1, 3, none⟩ (.int .i64 m.prim)).setCell ⟨KM + 1, 4, none⟩ (.slice fo fl fc)).setCell ⟨KM + 1, 5, none⟩ (.int .i64 m.at_) = W := ⟨_, rfl⟩
     have hR18 : Blk 33 (KM + 1) #[.string ⟨m.name.toArray⟩, .slice po pn pc', .slice uo un uc, .int .i64 m.prim, .slice fo fl fc, .int .i64 m.at_] W18 := by
      rw [← hW18]
      exact (((((HR14.out.set_ 0 _ _ rfl).set_ 1 _ _ rfl).set_ 2 _ _ rfl).set_ 3 _ _ rfl).set_ 4 _ _ rfl).set_ 5 _ _ rfl
     have hkp : ∀ b, b ≠ KM + 1 → W18.heap[b]? = w14.heap[b]? := fun b hb => by
      rw [← hW18]
      exact (Below.heap_setCell _ _ _ b hb).trans ((Below.heap_setCell _ _ _ b hb).trans ((Below.heap_setCell _ _ _ b hb).trans ((Below.heap_setCell _ _ _ b hb).trans ((Below.heap_setCell _ _ _ b hb).trans (Below.heap_setCell _ _ _ b hb)))))
     have hsz18 : W18.heap.size = w14.heap.size := by rw [← hW18]; simp [World.setCell]
     have hb18 : Below w.heap.size w W18 := by
      have h14 := HX5.out.trans (HB14.out.mono HX5.out.size)
      rw [← hW18]
      exact (((((h14.setCell (p := ⟨KM + 1, 0, none⟩) (by show w.heap.size ≤ KM + 1; omega) _).setCell (p := ⟨KM + 1, 1, none⟩) (by show w.heap.size ≤ KM + 1; omega) _).setCell (p := ⟨KM + 1, 2, none⟩) (by show w.heap.size ≤ KM + 1; omega) _).setCell (p := ⟨KM + 1, 3, none⟩) (by show w.heap.size ≤ KM + 1; omega) _).setCell (p := ⟨KM + 1, 4, none⟩) (by show w.heap.size ≤ KM + 1; omega) _).setCell (p := ⟨KM + 1, 5, none⟩) (by show w.heap.size ≤ KM + 1; omega) _
     rw [hW18]
     have e0 := hR18.c 0 _ rfl
     have e1 := hR18.c 1 _ rfl
     have e2 := hR18.c 2 _ rfl
     have e3 := hR18.c 3 _ rfl
     have e4 := hR18.c 4 _ rfl
     have e5 := hR18.c 5 _ rfl
     clear hS hW18 q0 q1 q2 q3 q4 q5
     go_wp2_with fail
     refine bodyPost_ret (v := .agg #[.string ⟨m.name.toArray⟩, .slice po pn pc', .slice uo un uc, .int .i64 m.prim, .slice fo fl fc, .int .i64 m.at_]) (by simp [results, Tryz.results9, go_sem, e0, e1, e2, e3, e4, e5]) rfl ?_
     refine ⟨hb18, _, _, _, rfl, ?_, ?_, ?_⟩
     · exact (HP14.out.kp ⟨by omega, fun b hb _ => hkp b (by omega)⟩).mono (fun b hb _ => by omega)
     · exact (HT14.out.kp ⟨by omega, fun b hb _ => hkp b (by omega)⟩).mono (fun b hb _ => by omega)
     have hb9s := HB9.out.size
     obtain ⟨vl, h1, h2, h3⟩ := HO14.out.kp (w' := W18) (by omega) (fun b _ hb => hkp b (by omega))
     exact ⟨vl, h1, own_mono h2 (by omega), fun x hx => ⟨(h3 x hx).1.mono (fun b hb _ => ⟨by have := hb.1; omega, hb.2⟩), (h3 x hx).2.mono (fun b hb _ => ⟨by have := hb.1; omega, hb.2⟩)⟩⟩
   skip
   go_simp
   have hX7 := alloc_bel (W5.drew.alloc (.cells #[] 9)) (.cells #[] 9)
   have HB6b := Lib.hid (HB6.out.trans (hX7.mono HB6.out.size))
   have HE6b := Lib.hid (own_mono (World.ownsRow_made (e := 9) (size := 1) (W5.drew.alloc (.cells #[] 9)) #[] 0 (Nat.le_refl _) (by unfold maxLen; omega) rfl) HB6.out.size)
   have HE2' := Lib.hid (own_below HE2.out hX7)
   clear hX7 HE2
   have HE2 := HE2'
   clear HE2'
   refine hK.out _ _ (hS _ HB6b.out) (fun hH2 => ?_)
   clear hK K
   try simp only [Act.put, Hd.sa, Hd.sz, Hd.ss]
   refine Hd.on 5 (fun K hK => ?_)
   refine step_rd (S := fun _ => True) (f := strV) (fun _ => rfl) rfl (.tmp 5) (.tmp 7) 22 9 rfl tI iI (.string ⟨#[]⟩) 16 hiI hI0 hI1 hI2 rfl (by exact HE2.out) (by simp [Act.eval]) (by simp [Act.eval]) (HMP.out.below HB6b.out) (by unfold maxLen; have := HP.out; omega) (by have := HP.out; omega) (by exact HB6b.out.size) ?_
   intro v5 w7 hown5 hg5 hat5
   have hb5 := HB6b.out.grown hg5 HB6b.out.size (fun k hk => (HE2.out.lt k hk).1)
   have HB7 := Lib.hid hb5
   have HP5 := Lib.hid (show w7.ownsRow W5.heap.size 9 1 v5 m.params.length (m.params.map strV) by simpa using hown5)
   have HE7 := Lib.hid (World.ownsRow.kept HE6b.out hg5 (.inr (fun h => by simp [Value.ownBlock] at h)))
   have HP7 := HP5
   have HNE : Hid (v5.ownBlock = none ∨ v5.ownBlock ≠ some (W5.drew.alloc (.cells #[] 9)).heap.size) := Lib.hid (.inr (fun h => by
    rcases hat5 with h1 | h1
    · rw [h] at h1; simp [Value.ownBlock] at h1
    rw [h] at h1; simp at h1 <;> omega))
   clear hown5 hg5 hb5 hat5
   refine hK.out _ _ (hS _ HB7.out) (fun hH3 => ?_)
   clear hK K
   try simp only [Act.put, Hd.sa, Hd.sz, Hd.ss]
   obtain ⟨po, pn, pc', rfl⟩ : ∃ a b c, v5 = .slice a b c := by obtain ⟨fo, fc, h, -⟩ := own_slice HP7.out; exact ⟨_, _, _, h⟩
   refine Hd.on 9 (fun K hK => ?_)
   refine step_rd (S := fun _ => True) (f := strV) (fun _ => rfl) rfl (.tmp 9) (.tmp 11) 22 9 rfl tI iI (.string ⟨#[]⟩) 16 hiI hI0 hI1 hI2 rfl (by exact HE7.out) (by simp [Act.eval]) (by simp [Act.eval]) (HMT.out.below HB7.out) (by unfold maxLen; have := HT.out; omega) (by have := HT.out; omega) (by exact HB7.out.size) ?_
   intro v9 w9 hown9 hg9 _
   have HB9 := Lib.hid (HB7.out.grown hg9 HB7.out.size (fun k hk => (HE7.out.lt k hk).1))
   have hT9 : w9.ownsRow W5.heap.size 9 1 v9 m.temps.length (m.temps.map strV) := by simpa using hown9
   have hP9 := World.ownsRow.kept HP7.out hg9 HNE.out
   obtain ⟨uo, un, uc, rfl⟩ : ∃ a b c, v9 = .slice a b c := by obtain ⟨fo, fc, h, -⟩ := own_slice hT9; exact ⟨_, _, _, h⟩
   have HT9 := Lib.hid (Rd.of hT9)
   have HP9 := Lib.hid (Rd.of hP9)
   clear hown9 hg9 hT9 hP9
   refine hK.out _ _ (hS _ HB9.out) (fun hH8 => ?_)
   clear hK K
   try simp only [Act.put, Hd.sa, Hd.sz, Hd.ss]
   refine Hd.on 14 (fun K hK => ?_)
   go_simp
   refine (HND.out _ _ (HMB.out.bel HB9.out)).mono ?_; rintro e w14 ⟨hb14, v14, rfl, hO14⟩
   obtain ⟨fo, fl, fc, rfl⟩ : ∃ a b c, v14 = .slice a b c := by obtain ⟨vl6, -, ho6, -⟩ := hO14; obtain ⟨ao, co, h, -⟩ := own_slice ho6; exact ⟨_, _, _, h⟩
   have hb14' := HB9.out.trans (hb14.mono HB9.out.size)
   have HT14 := Lib.hid (HT9.out.below hb14)
   have HP14 := Lib.hid (HP9.out.below hb14)
   have HO14 := Lib.hid hO14
   have HS14 := Lib.hid (hb14.size)
   have HB14 := Lib.hid hb14'
   have HR14 := Lib.hid (HR5.out.below hb14' hrl)
   clear hb14 hO14 hb14'
   go_wp2_with fail
   refine hK.out _ _ (hS _ HB14.out) (fun hH9 => ?_)
   clear hK K
   try simp only [Act.put, Hd.sa, Hd.sz, Hd.ss]
   refine Hd.tk 17 18 hH9 ?_
   have q0 := HR14.out.c 0 _ rfl
   have q1 := HR14.out.c 1 _ rfl
   have q2 := HR14.out.c 2 _ rfl
   have q3 := HR14.out.c 3 _ rfl
   have q4 := HR14.out.c 4 _ rfl
   have q5 := HR14.out.c 5 _ rfl
   have qf := HR14.out.fz
   have ql := HR14.out.lt
   refine Hd.la 18 (fun K hK => ?_)
   go_simp
   refine hK.out _ _ ?_
   clear hK K
   try simp only [Act.put, Hd.sa, Hd.sz, Hd.ss]
   simp only [NoPanic]
   obtain ⟨W18, hW18⟩ : ∃ W, (((((w14.setCell ⟨KM + 1, 0, none⟩ (.string ⟨m.name.toArray⟩)).setCell ⟨KM + 1, 1, none⟩ (.slice po pn pc')).setCell ⟨KM + 1, 2, none⟩ (.slice uo un uc)).setCell ⟨KM + 1, 3, none⟩ (.int .i64 m.prim)).setCell ⟨KM + 1, 4, none⟩ (.slice fo fl fc)).setCell ⟨KM + 1, 5, none⟩ (.int .i64 m.at_) = W := ⟨_, rfl⟩
   have hR18 : Blk 33 (KM + 1) #[.string ⟨m.name.toArray⟩, .slice po pn pc', .slice uo un uc, .int .i64 m.prim, .slice fo fl fc, .int .i64 m.at_] W18 := by
    rw [← hW18]
    exact (((((HR14.out.set_ 0 _ _ rfl).set_ 1 _ _ rfl).set_ 2 _ _ rfl).set_ 3 _ _ rfl).set_ 4 _ _ rfl).set_ 5 _ _ rfl
   have hkp : ∀ b, b ≠ KM + 1 → W18.heap[b]? = w14.heap[b]? := fun b hb => by
    rw [← hW18]
    exact (Below.heap_setCell _ _ _ b hb).trans ((Below.heap_setCell _ _ _ b hb).trans ((Below.heap_setCell _ _ _ b hb).trans ((Below.heap_setCell _ _ _ b hb).trans ((Below.heap_setCell _ _ _ b hb).trans (Below.heap_setCell _ _ _ b hb)))))
   have hsz18 : W18.heap.size = w14.heap.size := by rw [← hW18]; simp [World.setCell]
   have hb18 : Below w.heap.size w W18 := by
    have h14 := HX5.out.trans (HB14.out.mono HX5.out.size)
    rw [← hW18]
    exact (((((h14.setCell (p := ⟨KM + 1, 0, none⟩) (by show w.heap.size ≤ KM + 1; omega) _).setCell (p := ⟨KM + 1, 1, none⟩) (by show w.heap.size ≤ KM + 1; omega) _).setCell (p := ⟨KM + 1, 2, none⟩) (by show w.heap.size ≤ KM + 1; omega) _).setCell (p := ⟨KM + 1, 3, none⟩) (by show w.heap.size ≤ KM + 1; omega) _).setCell (p := ⟨KM + 1, 4, none⟩) (by show w.heap.size ≤ KM + 1; omega) _).setCell (p := ⟨KM + 1, 5, none⟩) (by show w.heap.size ≤ KM + 1; omega) _
   rw [hW18]
   have e0 := hR18.c 0 _ rfl
   have e1 := hR18.c 1 _ rfl
   have e2 := hR18.c 2 _ rfl
   have e3 := hR18.c 3 _ rfl
   have e4 := hR18.c 4 _ rfl
   have e5 := hR18.c 5 _ rfl
   clear hS hW18 q0 q1 q2 q3 q4 q5
   go_wp2_with fail
   refine bodyPost_ret (v := .agg #[.string ⟨m.name.toArray⟩, .slice po pn pc', .slice uo un uc, .int .i64 m.prim, .slice fo fl fc, .int .i64 m.at_]) (by simp [results, Tryz.results9, go_sem, e0, e1, e2, e3, e4, e5]) rfl ?_
   refine ⟨hb18, _, _, _, rfl, ?_, ?_, ?_⟩
   · exact (HP14.out.kp ⟨by omega, fun b hb _ => hkp b (by omega)⟩).mono (fun b hb _ => by omega)
   · exact (HT14.out.kp ⟨by omega, fun b hb _ => hkp b (by omega)⟩).mono (fun b hb _ => by omega)
   have hb9s := HB9.out.size
   obtain ⟨vl, h1, h2, h3⟩ := HO14.out.kp (w' := W18) (by omega) (fun b _ hb => hkp b (by omega))
   exact ⟨vl, h1, own_mono h2 (by omega), fun x hx => ⟨(h3 x hx).1.mono (fun b hb _ => ⟨by have := hb.1; omega, hb.2⟩), (h3 x hx).2.mono (fun b hb _ => ⟨by have := hb.1; omega, hb.2⟩)⟩⟩
 skip
 go_simp
 have hX6 : Below W5.heap.size W5 (W5.drew.alloc (.cells #[] 9)) := (Below.refl _ W5).drew.alloc (Nat.le_refl _) _
 have HE6 := Lib.hid (World.ownsRow_made (e := 9) (size := 1) W5.drew #[] 0 (Nat.le_refl _) (by unfold maxLen; omega) rfl)
 have HB6 := Lib.hid hX6
 refine hK.out _ _ (hS _ hX6) (fun hH1 => ?_)
 clear hK K hX6
 try simp only [Act.put, Hd.sa, Hd.sz, Hd.ss]
 have hX7 := alloc_bel (W5.drew.alloc (.cells #[] 9)) (.cells #[] 9)
 have HB6b := Lib.hid (HB6.out.trans (hX7.mono HB6.out.size))
 have HE2 := Lib.hid (own_mono (World.ownsRow_made (e := 9) (size := 1) (W5.drew.alloc (.cells #[] 9)) #[] 0 (Nat.le_refl _) (by unfold maxLen; omega) rfl) HB6.out.size)
 have HE6b := Lib.hid (own_below HE6.out hX7)
 clear hX7
 refine Hd.on 2 (fun K hK => ?_)
 go_simp
 refine hK.out _ _ (hS _ HB6b.out) (fun hH2 => ?_)
 clear hK K
 try simp only [Act.put, Hd.sa, Hd.sz, Hd.ss]
 refine Hd.on 5 (fun K hK => ?_)
 refine step_rd (S := fun _ => True) (f := strV) (fun _ => rfl) rfl (.tmp 5) (.tmp 7) 22 9 rfl tI iI (.string ⟨#[]⟩) 16 hiI hI0 hI1 hI2 rfl (by exact HE2.out) (by simp [Act.eval]) (by simp [Act.eval]) (HMP.out.below HB6b.out) (by unfold maxLen; have := HP.out; omega) (by have := HP.out; omega) (by exact HB6b.out.size) ?_
 intro v5 w7 hown5 hg5 hat5
 have hb5 := HB6b.out.grown hg5 HB6b.out.size (fun k hk => (HE2.out.lt k hk).1)
 have HB7 := Lib.hid hb5
 have HP5 := Lib.hid (show w7.ownsRow W5.heap.size 9 1 v5 m.params.length (m.params.map strV) by simpa using hown5)
 have HE7 := Lib.hid (World.ownsRow.kept HE6b.out hg5 (.inr (fun h => by simp [Value.ownBlock] at h)))
 have HP7 := HP5
 have HNE : Hid (v5.ownBlock = none ∨ v5.ownBlock ≠ some W5.drew.heap.size) := Lib.hid (.inr (fun h => by
  rcases hat5 with h1 | h1
  · rw [h] at h1; simp [Value.ownBlock] at h1
  rw [h] at h1; simp at h1; omega))
 clear hown5 hg5 hb5 hat5
 refine hK.out _ _ (hS _ HB7.out) (fun hH3 => ?_)
 clear hK K
 try simp only [Act.put, Hd.sa, Hd.sz, Hd.ss]
 obtain ⟨po, pn, pc', rfl⟩ : ∃ a b c, v5 = .slice a b c := by obtain ⟨fo, fc, h, -⟩ := own_slice HP7.out; exact ⟨_, _, _, h⟩
 refine Hd.on 9 (fun K hK => ?_)
 refine step_rd (S := fun _ => True) (f := strV) (fun _ => rfl) rfl (.tmp 9) (.tmp 11) 22 9 rfl tI iI (.string ⟨#[]⟩) 16 hiI hI0 hI1 hI2 rfl (by exact HE7.out) (by simp [Act.eval]) (by simp [Act.eval]) (HMT.out.below HB7.out) (by unfold maxLen; have := HT.out; omega) (by have := HT.out; omega) (by exact HB7.out.size) ?_
 intro v9 w9 hown9 hg9 _
 have HB9 := Lib.hid (HB7.out.grown hg9 HB7.out.size (fun k hk => (HE7.out.lt k hk).1))
 have hT9 : w9.ownsRow W5.heap.size 9 1 v9 m.temps.length (m.temps.map strV) := by simpa using hown9
 have hP9 := World.ownsRow.kept HP7.out hg9 HNE.out
 obtain ⟨uo, un, uc, rfl⟩ : ∃ a b c, v9 = .slice a b c := by obtain ⟨fo, fc, h, -⟩ := own_slice hT9; exact ⟨_, _, _, h⟩
 have HT9 := Lib.hid (Rd.of hT9)
 have HP9 := Lib.hid (Rd.of hP9)
 clear hown9 hg9 hT9 hP9
 refine hK.out _ _ (hS _ HB9.out) (fun hH8 => ?_)
 clear hK K
 try simp only [Act.put, Hd.sa, Hd.sz, Hd.ss]
 refine Hd.on 14 (fun K hK => ?_)
 go_simp
 refine (HND.out _ _ (HMB.out.bel HB9.out)).mono ?_; rintro e w14 ⟨hb14, v14, rfl, hO14⟩
 obtain ⟨fo, fl, fc, rfl⟩ : ∃ a b c, v14 = .slice a b c := by obtain ⟨vl6, -, ho6, -⟩ := hO14; obtain ⟨ao, co, h, -⟩ := own_slice ho6; exact ⟨_, _, _, h⟩
 have hb14' := HB9.out.trans (hb14.mono HB9.out.size)
 have HT14 := Lib.hid (HT9.out.below hb14)
 have HP14 := Lib.hid (HP9.out.below hb14)
 have HO14 := Lib.hid hO14
 have HS14 := Lib.hid (hb14.size)
 have HB14 := Lib.hid hb14'
 have HR14 := Lib.hid (HR5.out.below hb14' hrl)
 clear hb14 hO14 hb14'
 go_wp2_with fail
 refine hK.out _ _ (hS _ HB14.out) (fun hH9 => ?_)
 clear hK K
 try simp only [Act.put, Hd.sa, Hd.sz, Hd.ss]
 refine Hd.tk 17 18 hH9 ?_
 have q0 := HR14.out.c 0 _ rfl
 have q1 := HR14.out.c 1 _ rfl
 have q2 := HR14.out.c 2 _ rfl
 have q3 := HR14.out.c 3 _ rfl
 have q4 := HR14.out.c 4 _ rfl
 have q5 := HR14.out.c 5 _ rfl
 have qf := HR14.out.fz
 have ql := HR14.out.lt
 refine Hd.la 18 (fun K hK => ?_)
 go_simp
 refine hK.out _ _ ?_
 clear hK K
 try simp only [Act.put, Hd.sa, Hd.sz, Hd.ss]
 simp only [NoPanic]
 obtain ⟨W18, hW18⟩ : ∃ W, (((((w14.setCell ⟨KM + 1, 0, none⟩ (.string ⟨m.name.toArray⟩)).setCell ⟨KM + 1, 1, none⟩ (.slice po pn pc')).setCell ⟨KM + 1, 2, none⟩ (.slice uo un uc)).setCell ⟨KM + 1, 3, none⟩ (.int .i64 m.prim)).setCell ⟨KM + 1, 4, none⟩ (.slice fo fl fc)).setCell ⟨KM + 1, 5, none⟩ (.int .i64 m.at_) = W := ⟨_, rfl⟩
 have hR18 : Blk 33 (KM + 1) #[.string ⟨m.name.toArray⟩, .slice po pn pc', .slice uo un uc, .int .i64 m.prim, .slice fo fl fc, .int .i64 m.at_] W18 := by
  rw [← hW18]
  exact (((((HR14.out.set_ 0 _ _ rfl).set_ 1 _ _ rfl).set_ 2 _ _ rfl).set_ 3 _ _ rfl).set_ 4 _ _ rfl).set_ 5 _ _ rfl
 have hkp : ∀ b, b ≠ KM + 1 → W18.heap[b]? = w14.heap[b]? := fun b hb => by
  rw [← hW18]
  exact (Below.heap_setCell _ _ _ b hb).trans ((Below.heap_setCell _ _ _ b hb).trans ((Below.heap_setCell _ _ _ b hb).trans ((Below.heap_setCell _ _ _ b hb).trans ((Below.heap_setCell _ _ _ b hb).trans (Below.heap_setCell _ _ _ b hb)))))
 have hsz18 : W18.heap.size = w14.heap.size := by rw [← hW18]; simp [World.setCell]
 have hb18 : Below w.heap.size w W18 := by
  have h14 := HX5.out.trans (HB14.out.mono HX5.out.size)
  rw [← hW18]
  exact (((((h14.setCell (p := ⟨KM + 1, 0, none⟩) (by show w.heap.size ≤ KM + 1; omega) _).setCell (p := ⟨KM + 1, 1, none⟩) (by show w.heap.size ≤ KM + 1; omega) _).setCell (p := ⟨KM + 1, 2, none⟩) (by show w.heap.size ≤ KM + 1; omega) _).setCell (p := ⟨KM + 1, 3, none⟩) (by show w.heap.size ≤ KM + 1; omega) _).setCell (p := ⟨KM + 1, 4, none⟩) (by show w.heap.size ≤ KM + 1; omega) _).setCell (p := ⟨KM + 1, 5, none⟩) (by show w.heap.size ≤ KM + 1; omega) _
 rw [hW18]
 have e0 := hR18.c 0 _ rfl
 have e1 := hR18.c 1 _ rfl
 have e2 := hR18.c 2 _ rfl
 have e3 := hR18.c 3 _ rfl
 have e4 := hR18.c 4 _ rfl
 have e5 := hR18.c 5 _ rfl
 clear hS hW18 q0 q1 q2 q3 q4 q5
 go_wp2_with fail
 refine bodyPost_ret (v := .agg #[.string ⟨m.name.toArray⟩, .slice po pn pc', .slice uo un uc, .int .i64 m.prim, .slice fo fl fc, .int .i64 m.at_]) (by simp [results, Tryz.results9, go_sem, e0, e1, e2, e3, e4, e5]) rfl ?_
 refine ⟨hb18, _, _, _, rfl, ?_, ?_, ?_⟩
 · exact (HP14.out.kp ⟨by omega, fun b hb _ => hkp b (by omega)⟩).mono (fun b hb _ => by omega)
 · exact (HT14.out.kp ⟨by omega, fun b hb _ => hkp b (by omega)⟩).mono (fun b hb _ => by omega)
 have hb9s := HB9.out.size
 obtain ⟨vl, h1, h2, h3⟩ := HO14.out.kp (w' := W18) (by omega) (fun b _ hb => hkp b (by omega))
 exact ⟨vl, h1, own_mono h2 (by omega), fun x hx => ⟨(h3 x hx).1.mono (fun b hb _ => ⟨by have := hb.1; omega, hb.2⟩), (h3 x hx).2.mono (fun b hb _ => ⟨by have := hb.1; omega, hb.2⟩)⟩⟩
structure Two (KM KR : Nat) (w w' : World) : Prop where
 os : w'.os = w.os
 tape : w'.tape = w.tape
 output : w'.output = w.output
 size : w'.heap.size = w.heap.size
 block : ∀ b, b ≠ KM → b ≠ KR → w'.heap[b]? = w.heap[b]?
theorem Two.refl (KM KR : Nat) (w : World) : Two KM KR w w := ⟨rfl, rfl, rfl, rfl, fun _ _ _ => rfl⟩
theorem Two.km {KM KR : Nat} {w w' : World} (h : Two KM KR w w') (i : Nat) (u : Value) : Two KM KR w (w'.setCell ⟨KM, i, none⟩ u) :=
 ⟨h.os, h.tape, h.output, by rw [← h.size]; simp [World.setCell], fun b h1 h2 => (Below.heap_setCell w' ⟨KM, i, none⟩ u b h1).trans (h.block b h1 h2)⟩
theorem Two.kr {KM KR : Nat} {w w' : World} (h : Two KM KR w w') (i : Nat) (u : Value) : Two KM KR w (w'.setCell ⟨KR, i, none⟩ u) :=
 ⟨h.os, h.tape, h.output, by rw [← h.size]; simp [World.setCell], fun b h1 h2 => (Below.heap_setCell w' ⟨KR, i, none⟩ u b h2).trans (h.block b h1 h2)⟩
theorem fin_cut {KM KR B : Nat} {P : Nat → Prop} {w w4 WF : World} {m : Mt} {pv tv bv V : Value} (h : Two KM KR w4 WF) (hb : Below B w w4) (h1 : B ≤ KM) (h2 : B ≤ KR) (hV : V = mtV m pv tv bv)
  (hp : Rd (fun b => (b ≠ KM ∧ b ≠ KR) ∧ P b) strV w4 pv m.params) (ht : Rd (fun b => (b ≠ KM ∧ b ≠ KR) ∧ P b) strV w4 tv m.temps) (hbd : Tree (fun b => (b ≠ KM ∧ b ≠ KR) ∧ P b) w4 bv m.body) :
  Below B w WF ∧ ∃ pv' tv' bv', Ending.returned V = .returned (mtV m pv' tv' bv') ∧ MtAt P WF m pv' tv' bv' := by
 have hkp : Kp (fun b => (b ≠ KM ∧ b ≠ KR) ∧ P b) w4 WF := ⟨Nat.le_of_eq h.size.symm, fun b hb _ => h.block b hb.1.1 hb.1.2⟩
 exact ⟨⟨h.os.trans hb.os, h.tape.trans hb.tape, h.output.trans hb.output, by rw [h.size]; exact hb.size, fun b hlt => (h.block b (by omega) (by omega)).trans (hb.block b hlt)⟩, pv, tv, bv, by rw [hV], (hp.kp hkp).mono (fun _ h _ => h.2), (ht.kp hkp).mono (fun _ h _ => h.2), (hbd.kp hkp).mono (fun _ h _ => h.2)⟩
set_option maxRecDepth 100000 in
set_option maxHeartbeats 6400000 in
theorem cutm_any (B0 : Nat) (m : Mt) (pv tv bv : Value) (w : World) (hB0 : B0 ≤ w.heap.size) (hm1 : MtAt (fun b => b < B0) w m pv tv bv) :
  Calls Tryz.prog 7 #[mtV m pv tv bv] w (fun e w' => Below w.heap.size w w' ∧ ∃ pv' tv' bv', e = .returned (mtV (cutM m) pv' tv' bv') ∧ MtAt (fun b => b < B0 ∨ w.heap.size ≤ b) w' (cutM m) pv' tv' bv') := by
 have hm := hm1
 obtain ⟨pa, pc, rfl, hpc, hpm⟩ := hm.params.form
 obtain ⟨ta, tc, rfl, htc, htm⟩ := hm.temps.form
 obtain ⟨ba, bc, rfl, -, -⟩ := hm.body.form
 obtain ⟨pl, hp⟩ : ∃ q, m.params.length = q := ⟨_, rfl⟩
 obtain ⟨tl, ht⟩ : ∃ q, m.temps.length = q := ⟨_, rfl⟩
 obtain ⟨bl, hbl⟩ : ∃ q, m.body.length = q := ⟨_, rfl⟩
 have HP := Lib.hid hp
 have HT := Lib.hid ht
 unfold maxLen at hpm htm
 obtain ⟨W, hW⟩ : ∃ W, ((w.alloc (.cells #[.string ⟨m.name.toArray⟩, .slice pa pl pc, .slice ta tl tc, .int .i64 m.prim, .slice ba bl bc, .int .i64 m.at_] 25)).alloc (.cells #[.string ⟨#[]⟩, .slice none 0 0, .slice none 0 0, .int .i64 0, .slice none 0 0, .int .i64 0] 25)).alloc (.cells #[.int .i64 200] 3) = W := ⟨_, rfl⟩
 rw [hp, ht, hbl] at hm1
 have hX1 := alloc_bel w (.cells #[.string ⟨m.name.toArray⟩, .slice pa pl pc, .slice ta tl tc, .int .i64 m.prim, .slice ba bl bc, .int .i64 m.at_] 25)
 have hX2 := alloc_bel (w.alloc (.cells #[.string ⟨m.name.toArray⟩, .slice pa pl pc, .slice ta tl tc, .int .i64 m.prim, .slice ba bl bc, .int .i64 m.at_] 25)) (.cells #[.string ⟨#[]⟩, .slice none 0 0, .slice none 0 0, .int .i64 0, .slice none 0 0, .int .i64 0] 25)
 have hX3 := alloc_bel ((w.alloc (.cells #[.string ⟨m.name.toArray⟩, .slice pa pl pc, .slice ta tl tc, .int .i64 m.prim, .slice ba bl bc, .int .i64 m.at_] 25)).alloc (.cells #[.string ⟨#[]⟩, .slice none 0 0, .slice none 0 0, .int .i64 0, .slice none 0 0, .int .i64 0] 25)) (.cells #[.int .i64 200] 3)
 have hX12 := hX1.trans (hX2.mono hX1.size)
 have hX : Below w.heap.size w W := by rw [← hW]; exact hX12.trans (hX3.mono hX12.size)
 have hz1 : (w.alloc (.cells #[.string ⟨m.name.toArray⟩, .slice pa pl pc, .slice ta tl tc, .int .i64 m.prim, .slice ba bl bc, .int .i64 m.at_] 25)).heap.size = w.heap.size + 1 := by simp
 have hz2 : ((w.alloc (.cells #[.string ⟨m.name.toArray⟩, .slice pa pl pc, .slice ta tl tc, .int .i64 m.prim, .slice ba bl bc, .int .i64 m.at_] 25)).alloc (.cells #[.string ⟨#[]⟩, .slice none 0 0, .slice none 0 0, .int .i64 0, .slice none 0 0, .int .i64 0] 25)).heap.size = w.heap.size + 2 := by simp
 have hk1 : Blk 25 w.heap.size #[.string ⟨m.name.toArray⟩, .slice pa pl pc, .slice ta tl tc, .int .i64 m.prim, .slice ba bl bc, .int .i64 m.at_] W := by rw [← hW]; exact ((Blk.made w).alloc _).alloc _
 have hk2 : Blk 25 (w.heap.size + 1) #[.string ⟨#[]⟩, .slice none 0 0, .slice none 0 0, .int .i64 0, .slice none 0 0, .int .i64 0] W := by
  rw [← hW]
  have h := (Blk.made (T := 25) (cs := #[.string ⟨#[]⟩, .slice none 0 0, .slice none 0 0, .int .i64 0, .slice none 0 0, .int .i64 0]) (w.alloc (.cells #[.string ⟨m.name.toArray⟩, .slice pa pl pc, .slice ta tl tc, .int .i64 m.prim, .slice ba bl bc, .int .i64 m.at_] 25))).alloc (.cells #[.int .i64 200] 3)
  rw [hz1] at h
  exact h
 have hk3 : Blk 3 (w.heap.size + 2) #[.int .i64 ((200 : Nat) : Int)] W := by
  rw [← hW]
  have h := Blk.made (T := 3) (cs := #[.int .i64 200]) ((w.alloc (.cells #[.string ⟨m.name.toArray⟩, .slice pa pl pc, .slice ta tl tc, .int .i64 m.prim, .slice ba bl bc, .int .i64 m.at_] 25)).alloc (.cells #[.string ⟨#[]⟩, .slice none 0 0, .slice none 0 0, .int .i64 0, .slice none 0 0, .int .i64 0] 25))
  rw [hz2] at h
  exact h
 have hzW : W.heap.size = w.heap.size + 3 := by rw [← hW]; simp
 have hFW := few_any B0 (w.heap.size + 2) m.body (.slice ba bl bc) 60 200 W (by omega) (by omega) (by omega) hk3 (hm1.body.bel hX)
 have HFW := Lib.hid hFW
 have HPR := Lib.hid (hm1.params.below hX)
 have HTR := Lib.hid (hm1.temps.below hX)
 unfold mtV
 rw [hp, ht, hbl]
 rw [hp] at hpc
 rw [ht] at htc
 have HW := Lib.hid hW
 have HX := Lib.hid hX
 have HK1 := Lib.hid hk1
 have HK2 := Lib.hid hk2
 have HZ := Lib.hid hzW
 clear hm hm1 hp ht hbl hX1 hX2 hX3 hX12 hX hk1 hk2 hk3 hz1 hz2 hzW hFW hW
 go_enter Tryz.func7, Tryz.ntmps7
 go_wp2_with fail
 rw [HW.out]
 refine HFW.out.mono ?_; rintro e w4 ⟨v4, rfl, hO4, -, hbt4⟩
 have hT4 := hO4.tree
 have hlo4 : ∀ g, v4.ownBlock = some g → W.heap.size ≤ g := fun g hg => by obtain ⟨vl4, -, ho4, -⟩ := hO4; exact (ho4.lt g hg).1
 obtain ⟨fo, fl, fc, rfl⟩ : ∃ a b c, v4 = .slice a b c := by obtain ⟨vl4, -, ho4, -⟩ := hO4; obtain ⟨ao, co, h, -⟩ := own_slice ho4; exact ⟨_, _, _, h⟩
 have hzW := HZ.out
 have hK4 := hbt4.blk HK1.out (by omega)
 have hR4 := hbt4.blk HK2.out (by omega)
 have HT4 := Lib.hid (hT4.mono (S' := fun b => (b ≠ w.heap.size ∧ b ≠ w.heap.size + 1) ∧ (b < B0 ∨ w.heap.size ≤ b)) (fun b hb _ => by
  rcases hb with (hb | hb) | hb
  · omega
  · omega
  have := hlo4 b hb; omega))
 have HP4 := Lib.hid ((HPR.out.kp (w' := w4) ⟨hbt4.size, fun b hb hl => hbt4.block b hl (by omega)⟩).mono (S' := fun b => (b ≠ w.heap.size ∧ b ≠ w.heap.size + 1) ∧ (b < B0 ∨ w.heap.size ≤ b)) (fun b hb _ => by omega))
 have HR4 := Lib.hid ((HTR.out.kp (w' := w4) ⟨hbt4.size, fun b hb hl => hbt4.block b hl (by omega)⟩).mono (S' := fun b => (b ≠ w.heap.size ∧ b ≠ w.heap.size + 1) ∧ (b < B0 ∨ w.heap.size ≤ b)) (fun b hb _ => by omega))
 have HB4 := Lib.hid (HX.out.trans (hbt4.bel (B := w.heap.size) (fun b h => by omega) HX.out.size))
 have c0 := hK4.c 0 _ rfl
 have c1 := hK4.c 1 _ rfl
 have c2 := hK4.c 2 _ rfl
 have c3 := hK4.c 3 _ rfl
 have c4 := hK4.c 4 _ rfl
 have c5 := hK4.c 5 _ rfl
 have cf := hK4.fz
 have cl := hK4.lt
 have r0 := hR4.c 0 _ rfl
 have r1 := hR4.c 1 _ rfl
 have r2 := hR4.c 2 _ rfl
 have r3 := hR4.c 3 _ rfl
 have r4 := hR4.c 4 _ rfl
 have r5 := hR4.c 5 _ rfl
 have rf := hR4.fz
 have rl := hR4.lt
 clear hO4 hbt4 hT4 hlo4 hK4 hR4 HW HX HK1 HK2 HZ HFW HPR HTR
 by_cases hp15 : 15 < pl
 · skip
   have hpd : decide ((15 : Int) < (pl : Int)) = true := decide_eq_true (by omega)
   have hp16 : decide ((15 : Int) ≤ (pc : Int)) = true := decide_eq_true (by omega)
   by_cases ht15 : 15 < tl
   · have htd : decide ((15 : Int) < (tl : Int)) = true := decide_eq_true (by omega)
     have ht16 : decide ((15 : Int) ≤ (tc : Int)) = true := decide_eq_true (by omega)
     go_wp2_with fail
     refine bodyPost_ret (v := .agg #[.string ⟨m.name.toArray⟩, .slice pa 15 pc, .slice ta 15 tc, .int .i64 m.prim, .slice fo fl fc, .int .i64 m.at_]) (by simp [results, Tryz.results7, go_sem, r0, r1, r2, r3, r4, r5]) rfl ?_
     refine fin_cut (P := fun b => b < B0 ∨ w.heap.size ≤ b) (KM := w.heap.size) (KR := w.heap.size + 1) (w4 := w4) (m := cutM m) (pv := .slice pa 15 pc) (tv := .slice ta 15 tc) (bv := .slice fo fl fc) ?_ HB4.out (Nat.le_refl _) (Nat.le_succ _) rfl (HP4.out.cut 15 (by omega)) (HR4.out.cut 15 (by omega)) HT4.out
     exact ((((((((((Two.refl _ _ _).km 4 _).km 1 _).km 2 _).kr 0 _).kr 1 _).kr 2 _).kr 3 _).kr 4 _).kr 5 _)
   have htd : decide ((15 : Int) < (tl : Int)) = false := decide_eq_false (by omega)
   go_wp2_with fail
   refine bodyPost_ret (v := .agg #[.string ⟨m.name.toArray⟩, .slice pa 15 pc, .slice ta tl tc, .int .i64 m.prim, .slice fo fl fc, .int .i64 m.at_]) (by simp [results, Tryz.results7, go_sem, r0, r1, r2, r3, r4, r5]) rfl ?_
   refine fin_cut (P := fun b => b < B0 ∨ w.heap.size ≤ b) (KM := w.heap.size) (KR := w.heap.size + 1) (w4 := w4) (m := cutM m) (pv := .slice pa 15 pc) (tv := .slice ta tl tc) (bv := .slice fo fl fc) ?_ HB4.out (Nat.le_refl _) (Nat.le_succ _) rfl (HP4.out.cut 15 (by omega)) (show Rd _ strV w4 (.slice ta tl tc) (m.temps.take 15) from (by rw [List.take_of_length_le (by have := HT.out; omega)]; exact HR4.out)) HT4.out
   exact (((((((((Two.refl _ _ _).km 4 _).km 1 _).kr 0 _).kr 1 _).kr 2 _).kr 3 _).kr 4 _).kr 5 _)
 skip
 have hpd : decide ((15 : Int) < (pl : Int)) = false := decide_eq_false (by omega)
 by_cases ht15 : 15 < tl
 · have htd : decide ((15 : Int) < (tl : Int)) = true := decide_eq_true (by omega)
   have ht16 : decide ((15 : Int) ≤ (tc : Int)) = true := decide_eq_true (by omega)
   go_wp2_with fail
   refine bodyPost_ret (v := .agg #[.string ⟨m.name.toArray⟩, .slice pa pl pc, .slice ta 15 tc, .int .i64 m.prim, .slice fo fl fc, .int .i64 m.at_]) (by simp [results, Tryz.results7, go_sem, r0, r1, r2, r3, r4, r5]) rfl ?_
   refine fin_cut (P := fun b => b < B0 ∨ w.heap.size ≤ b) (KM := w.heap.size) (KR := w.heap.size + 1) (w4 := w4) (m := cutM m) (pv := .slice pa pl pc) (tv := .slice ta 15 tc) (bv := .slice fo fl fc) ?_ HB4.out (Nat.le_refl _) (Nat.le_succ _) rfl (show Rd _ strV w4 (.slice pa pl pc) (m.params.take 15) from (by rw [List.take_of_length_le (by have := HP.out; omega)]; exact HP4.out)) (HR4.out.cut 15 (by omega)) HT4.out
   exact (((((((((Two.refl _ _ _).km 4 _).km 2 _).kr 0 _).kr 1 _).kr 2 _).kr 3 _).kr 4 _).kr 5 _)
 have htd : decide ((15 : Int) < (tl : Int)) = false := decide_eq_false (by omega)
 go_wp2_with fail
 refine bodyPost_ret (v := .agg #[.string ⟨m.name.toArray⟩, .slice pa pl pc, .slice ta tl tc, .int .i64 m.prim, .slice fo fl fc, .int .i64 m.at_]) (by simp [results, Tryz.results7, go_sem, r0, r1, r2, r3, r4, r5]) rfl ?_
 refine fin_cut (P := fun b => b < B0 ∨ w.heap.size ≤ b) (KM := w.heap.size) (KR := w.heap.size + 1) (w4 := w4) (m := cutM m) (pv := .slice pa pl pc) (tv := .slice ta tl tc) (bv := .slice fo fl fc) ?_ HB4.out (Nat.le_refl _) (Nat.le_succ _) rfl (show Rd _ strV w4 (.slice pa pl pc) (m.params.take 15) from (by rw [List.take_of_length_le (by have := HP.out; omega)]; exact HP4.out)) (show Rd _ strV w4 (.slice ta tl tc) (m.temps.take 15) from (by rw [List.take_of_length_le (by have := HT.out; omega)]; exact HR4.out)) HT4.out
 exact ((((((((Two.refl _ _ _).km 4 _).kr 0 _).kr 1 _).kr 2 _).kr 3 _).kr 4 _).kr 5 _)
end Tr
end Go.Proofs.YtmmgfifpjifjnaaGreatDoor
namespace Go.Proofs.YtmmgfifpjifjnaaGreatDoor
open Go.RowKit
namespace Tr
open Bs Sm
theorem Rd.none_ {α : Type} {S : Nat → Prop} {f : α → Value} {w : World} {l : List α} (hl : l.length = 0) (a : Option Addr) (c : Nat) (h : a = none → c = 0) (hm : c ≤ maxLen) : Rd S f w (.slice a 0 c) l :=
 ⟨a, c, by rw [hl], by omega, hm, h, fun h => by omega⟩
theorem six {T k : Nat} {u0 u1 u2 u3 u4 u5 : Value} {w : World} (h : Blk T k #[u0, u1, u2, u3, u4, u5] w) (v0 v1 v2 v3 v4 v5 : Value) :
  Blk T k #[v0, v1, v2, v3, v4, v5] ((((((w.setCell ⟨k, 0, none⟩ v0).setCell ⟨k, 1, none⟩ v1).setCell ⟨k, 2, none⟩ v2).setCell ⟨k, 3, none⟩ v3).setCell ⟨k, 4, none⟩ v4).setCell ⟨k, 5, none⟩ v5) :=
 ((((((h.set_ 0 v0 _ rfl).set_ 1 v1 _ rfl).set_ 2 v2 _ rfl).set_ 3 v3 _ rfl).set_ 4 v4 _ rfl).set_ 5 v5 _ rfl)
theorem six_two {k : Nat} (w : World) (v0 v1 v2 v3 v4 v5 : Value) :
  Two k k w ((((((w.setCell ⟨k, 0, none⟩ v0).setCell ⟨k, 1, none⟩ v1).setCell ⟨k, 2, none⟩ v2).setCell ⟨k, 3, none⟩ v3).setCell ⟨k, 4, none⟩ v4).setCell ⟨k, 5, none⟩ v5) :=
 ((((((Two.refl k k w).km 0 v0).km 1 v1).km 2 v2).km 3 v3).km 4 v4).km 5 v5
theorem Two.blk {k j T : Nat} {cs : Array Value} {w w' : World} (h : Two k k w w') (hb : Blk T j cs w) (hj : j ≠ k) : Blk T j cs w' := (h.block j hj hj).trans hb
theorem MtAt.two {S : Nat → Prop} {k : Nat} {w w' : World} {m : Mt} {pv tv bv : Value} (h : MtAt S w m pv tv bv) (ht : Two k k w w') (hS : ∀ b, S b → b ≠ k) : MtAt S w' m pv tv bv :=
 h.kp ⟨Nat.le_of_eq ht.size.symm, fun b hb _ => ht.block b (hS b hb) (hS b hb)⟩
theorem MtAt.form {S : Nat → Prop} {w : World} {m : Mt} {pv tv bv : Value} (h : MtAt S w m pv tv bv) : ∃ pa pc ta tc ba bc, pv = .slice pa m.params.length pc ∧ tv = .slice ta m.temps.length tc ∧ bv = .slice ba m.body.length bc := by
 obtain ⟨pa, pc, e1, _⟩ := h.params.form
 obtain ⟨ta, tc, e2, _⟩ := h.temps.form
 obtain ⟨ba, bc, e3, _⟩ := h.body.form
 exact ⟨pa, pc, ta, tc, ba, bc, e1, e2, e3⟩
theorem Two.bel {k B : Nat} {w0 w w' : World} (h : Two k k w w') (hb : Below B w0 w) (hk : B ≤ k) : Below B w0 w' :=
 ⟨h.os.trans hb.os, h.tape.trans hb.tape, h.output.trans hb.output, by rw [h.size]; exact hb.size, fun b hlt => (h.block b (by omega) (by omega)).trans (hb.block b hlt)⟩
end Tr
end Go.Proofs.YtmmgfifpjifjnaaGreatDoor
