/- Chapter 17, the walk: the reference's Read, one step (wip/gen/gen_hpqf.py prints this). · Chapter 17, the walk: the reference's Read tied to itself. -/
import Derived.Test.YtojblndlchcjeaaHpAe
import Derived.Test.YtojblndlchcjeaaHpAd
import Derived.Deep.DeepCutAuto
set_option linter.unusedVariables false
namespace Go.Proofs.Ytojblndlchcjeaa
open Go.RowKit
namespace Hp
open Bs Sm
theorem set6_heap {k : Nat} {w : World} (v0 v1 v2 v3 v4 v5 : Value) (b : Nat) (hne : b ≠ k) : ((((((w.setCell ⟨k, 0, none⟩ v0).setCell ⟨k, 1, none⟩ v1).setCell ⟨k, 2, none⟩ v2).setCell ⟨k, 3, none⟩ v3).setCell ⟨k, 4, none⟩ v4).setCell ⟨k, 5, none⟩ v5).heap[b]? = w.heap[b]? := by
  rw [Below.heap_setCell _ ⟨k, 5, none⟩ _ b hne, Below.heap_setCell _ ⟨k, 4, none⟩ _ b hne, Below.heap_setCell _ ⟨k, 3, none⟩ _ b hne, Below.heap_setCell _ ⟨k, 2, none⟩ _ b hne, Below.heap_setCell _ ⟨k, 1, none⟩ _ b hne, Below.heap_setCell _ ⟨k, 0, none⟩ _ b hne]
theorem set6_size {k : Nat} {w : World} (v0 v1 v2 v3 v4 v5 : Value) : ((((((w.setCell ⟨k, 0, none⟩ v0).setCell ⟨k, 1, none⟩ v1).setCell ⟨k, 2, none⟩ v2).setCell ⟨k, 3, none⟩ v3).setCell ⟨k, 4, none⟩ v4).setCell ⟨k, 5, none⟩ v5).heap.size = w.heap.size := by simp [World.setCell]
theorem pairR_skip (l : List Ob) (x : Nat) {ws : List Nat} {j a b : Nat} (ha : ws[2 * j]? = some a) (hb : ws[2 * j + 1]? = some b) : pairR l x (ws.drop (2 * j)) = if b = x then some (bytesO l a) else pairR l x (ws.drop (2 * (j + 1))) := by
  have h1 : ws.drop (2 * j) = a :: b :: ws.drop (2 * (j + 1)) := by
    obtain ⟨k1, k2⟩ := List.getElem?_eq_some_iff.1 ha
    obtain ⟨k3, k4⟩ := List.getElem?_eq_some_iff.1 hb
    rw [List.drop_eq_getElem_cons k1, List.drop_eq_getElem_cons k3, k2, k4]
    rfl
  rw [h1]; rfl
theorem pairR_end (l : List Ob) (x : Nat) {ws : List Nat} {j : Nat} (h : ws.length ≤ 2 * j + 1) : pairR l x (ws.drop (2 * j)) = none := by
  by_cases h2 : 2 * j < ws.length
  · have : (ws.drop (2 * j)).length = 1 := by rw [List.length_drop]; omega
    match hd : ws.drop (2 * j), this with
    | [a], _ => rfl
  · rw [List.drop_eq_nil_of_le (by omega)]; rfl
def nameG : Option Bts → Except Int It
  | some b => .ok (itm 9 0 b [])
  | none => .error 13
def objG (L : Look) (cl : Nat → Ob → Option Bts) (f deep x : Nat) (o : Ob) : Except Int It :=
  if o.hd.cls = rt L 12 then .ok (itm 2 0 o.bytes [])
  else if o.hd.cls = rt L 13 then .ok (itm 3 0 o.bytes [])
  else if o.hd.cls = rt L 14 then arrG L cl f deep o.words
  else nameG (cl x o)
def tailG (L : Look) (cl : Nat → Ob → Option Bts) (f deep x : Nat) : Except Int It := match findO L.l x with
  | none => .error 13
  | some o => objG L cl f deep x o
theorem tailG_none {L : Look} {cl : Nat → Ob → Option Bts} {f deep x : Nat} (h : findO L.l x = none) : tailG L cl f deep x = .error 13 := by unfold tailG; rw [h]
theorem tailG_some {L : Look} {cl : Nat → Ob → Option Bts} {f deep x : Nat} {o : Ob} (h : findO L.l x = some o) : tailG L cl f deep x = objG L cl f deep x o := by unfold tailG; rw [h]
theorem readG_eq2 (L : Look) (cl : Nat → Ob → Option Bts) (f x deep : Nat) : readG L 13 10 cl (f + 1) x deep =
    if x % 2 = 1 then .ok (itm 1 (valW x) [] [])
    else if x = rt L 0 then .ok (itm 5 0 [] [])
    else if x = rt L 1 then .ok (itm 6 0 [] [])
    else if x = rt L 2 then .ok (itm 7 0 [] [])
    else tailG L cl f deep x := by
  rw [readG_eq]
  unfold tailG objG
  cases findO L.l x with
  | none => rfl
  | some o => cases h : cl x o <;> simp only [h] <;> rfl
/-- What the reference's reader wants of memory. -/
structure RfC (l : List Ob) (RW : List Nat) (kg : Nat) (og : Ob) : Prop where
  hat : ∀ o ∈ l, o.at_ ≤ 16777216
  rl : RW.length = 24
  g64 : RW.getD 3 0 < 18446744073709551616
  hk : idxO l (RW.getD 3 0) = some kg
  ho : l[kg]? = some og
  w16 : og.words.length ≤ 16777216
  hsy : ∀ i x, og.words[2 * i]? = some x → x < 18446744073709551616 ∧ ∃ k o, idxO l x = some k ∧ l[k]? = some o
  wds : ∀ o ∈ l, o.words.length ≤ 2000000 ∧ ∀ x ∈ o.words, x < 18446744073709551616
/-- What the reference's loop keeps. -/
structure RfI (lb ob rb nb Bn : Nat) (lkc obc : Array Value) (kv : Value) (r : List It) (w wr : World) : Prop where
  bel : Below w.heap.size w wr
  lk : Blk LKT lb lkc wr
  ob_ : Blk OT ob obc wr
  res : Blk RIT rb #[.int .i64 0, .string ⟨#[]⟩, .int .i64 0, .int .i64 0, .int .i64 0, .slice none 0 0] wr
  out : Blk RIT nb #[.int .i64 4, .string ⟨#[]⟩, .int .i64 0, .int .i64 0, .int .i64 0, kv] wr
  row : OwnI RIT Bn (fun b => Bn ≤ b) wr kv r
  big : Bn ≤ wr.heap.size
theorem RfI.bl {lb ob rb nb Bn : Nat} {lkc obc : Array Value} {kv : Value} {r : List It} {w wr w' : World} (h : RfI lb ob rb nb Bn lkc obc kv r w wr) (hb : Below wr.heap.size wr w') : RfI lb ob rb nb Bn lkc obc kv r w w' :=
  ⟨h.bel.trans (hb.mono h.bel.size), h.lk.below hb h.lk.lt, h.ob_.below hb h.ob_.lt, h.res.below hb h.res.lt, h.out.below hb h.out.lt, h.row.bel hb, Nat.le_trans h.big hb.size⟩
/-- An item in a block of its own, or none. -/
def RfX (R : Except Int It) (base pb : Nat) (er : Int) (wx : World) : Prop := match R with
  | .error e => e ≠ 0 ∧ er = e ∧ Blk RIT pb #[.int .i64 0, .string ⟨#[]⟩, .int .i64 0, .int .i64 0, .int .i64 0, .slice none 0 0] wx
  | .ok x => er = 0 ∧ ∃ ka kc, Blk RIT pb #[.int .i64 x.kind, .string ⟨x.name.toArray⟩, .int .i64 x.num, .int .i64 x.slot, .int .i64 x.width, .slice ka x.kids.length kc] wx ∧ Its (fun b => base ≤ b) wx (.slice ka x.kids.length kc) x.kids
theorem RdR.rfx {R : Except Int It} {w w' Wf : World} {base pb : Nat} {k n sl wd er : Int} {s : ByteArray} {ka : Option Addr} {kn kc : Nat} (h : RdR R w (.returned (.tuple #[.agg #[.int .i64 k, .string s, .int .i64 n, .int .i64 sl, .int .i64 wd, .slice ka kn kc], .int .i64 er])) w')
    (hq : Blk RIT pb #[.int .i64 k, .string s, .int .i64 n, .int .i64 sl, .int .i64 wd, .slice ka kn kc] Wf) (hk : Kp (fun b => w.heap.size ≤ b) w' Wf) (hb : base ≤ w.heap.size) : RfX R base pb er Wf := by
  obtain ⟨-, h⟩ := h
  cases R with
  | error e =>
    obtain ⟨h1, h2⟩ := h
    unfold itZ at h2
    simp only [Ending.returned.injEq, Value.tuple.injEq, Array.mk.injEq, List.cons.injEq, Value.agg.injEq, Value.int.injEq, Value.string.injEq, Value.slice.injEq, and_true, true_and] at h2
    obtain ⟨⟨rfl, rfl, rfl, rfl, rfl, rfl, rfl, rfl⟩, rfl⟩ := h2
    exact ⟨h1, rfl, hq⟩
  | ok x =>
    obtain ⟨ka', kc', h1, h2⟩ := h
    unfold itV at h1
    simp only [Ending.returned.injEq, Value.tuple.injEq, Array.mk.injEq, List.cons.injEq, Value.agg.injEq, Value.int.injEq, Value.string.injEq, Value.slice.injEq, and_true, true_and] at h1
    obtain ⟨⟨rfl, rfl, rfl, rfl, rfl, rfl, rfl, rfl⟩, rfl⟩ := h1
    exact ⟨rfl, ka, kc, hq, (h2.kp hk).mono (fun b hb' _ => Nat.le_trans hb hb')⟩
set_option maxRecDepth 100000 in
set_option maxHeartbeats 6400000 in
theorem rread_step (S : Nat → Prop) (N last rn rc kg : Nat) (ra : Option Addr) (lv : Value) (RW : List Nat) (l : List Ob) (og : Ob) (C : RfC l RW kg og) (f deep : Nat) (hd : deep ≤ 41)
    (READ : deep ≤ 40 → ∀ (x : Nat) (w : World), Obs S w lv l → Rd S uV w (.slice ra rn rc) RW → x < 18446744073709551616 → Calls Try.prog 13 #[lkV N lv last (.slice ra rn rc), .int .u64 (x : Int), .int .i64 ((deep + 1 : Nat) : Int)] w (RdR (readG ⟨l, RW⟩ 13 10 (clsRef ⟨l, RW⟩) f x (deep + 1)) w))
    (x : Nat) (w : World) (hl : Obs S w lv l) (hr : Rd S uV w (.slice ra rn rc) RW) (hx : x < 18446744073709551616) :
    Calls Try.prog 13 #[lkV N lv last (.slice ra rn rc), .int .u64 (x : Int), .int .i64 (deep : Int)] w (RdR (readG ⟨l, RW⟩ 13 10 (clsRef ⟨l, RW⟩) (f + 1) x deep) w) := by
  rw [readG_eq2]
  have HFD := Lib.hid (fun v (h : Obs S v lv l) => rfind_any S N last x lv l v h C.hat hx)
  have HWD := Lib.hid (fun v (h : Obs S v lv l) => rwds_some S N last (RW.getD 3 0) kg rn rc ra lv l og v h C.hat C.g64 C.hk C.ho)
  have h13 : RW[13]? = some (RW.getD 13 0) := by rw [List.getD_eq_getElem?_getD, List.getElem?_eq_getElem (by rw [C.rl]; omega)]; rfl
  have HSY := Lib.hid (fun v y k o (h : Obs S v lv l) (h2 : Rd S uV v (.slice ra rn rc) RW) (hy : y < 18446744073709551616) (hk : idxO l y = some k) (ho : l[k]? = some o) => rsym_some S N last y k rn rc (RW.getD 13 0) ra lv RW l o v h C.hat hy hk ho h2 h13)
  have HRDX := Lib.hid READ
  have HC := Lib.hid C
  have HL := Lib.hid hl
  have HR := Lib.hid hr
  obtain ⟨a, cap, rfl, -, -⟩ := hl.form
  obtain ⟨m, hm⟩ : ∃ m, l.length = m := ⟨_, rfl⟩
  rw [hm] at HFD HWD HL HSY HRDX ⊢
  obtain ⟨a', c', e', hle, hcm, hcn, hcell⟩ := hr
  have hrn : rn = 24 := by cases e'; exact C.rl
  obtain ⟨gb, off, hra, -, hgl, hrd⟩ := hcell (by rw [C.rl]; omega)
  have hra2 : ra = some ⟨gb, off, none⟩ := by cases e'; exact hra
  subst hra2
  have hrni : (rn : Int) = 24 := by omega
  have HRT : Hid (∀ i, i < 24 → ∀ v, Below w.heap.size w v → v.cell? ⟨gb, off + i, none⟩ = some (.int .u64 (RW.getD i 0 : Int))) := Lib.hid (fun i hi v hb => by
    have h1 : RW[i]? = some (RW.getD i 0) := by rw [List.getD_eq_getElem?_getD, List.getElem?_eq_getElem (by rw [C.rl]; exact hi)]; rfl
    exact (World.cell?_of_block (a := ⟨gb, off + i, none⟩) (hb.block gb hgl)).trans (hrd i _ h1))
  obtain ⟨W1, hal1⟩ : ∃ W, w.alloc (.cells #[.int .i64 (N : Int), .slice a m cap, .int .u32 (last : Int), .slice (some ⟨gb, off, none⟩) rn rc] LKT) = W := ⟨_, rfl⟩
  have b1 : Below w.heap.size w W1 := by rw [← hal1]; exact alloc_bel w _
  have q1 : Blk LKT w.heap.size #[.int .i64 (N : Int), .slice a m cap, .int .u32 (last : Int), .slice (some ⟨gb, off, none⟩) rn rc] W1 := by rw [← hal1]; exact Blk.made w
  obtain ⟨W2, hal2⟩ : ∃ W, W1.alloc (.cells #[.int .i64 0, .string ⟨#[]⟩, .int .i64 0, .int .i64 0, .int .i64 0, .slice none 0 0] RIT) = W := ⟨_, rfl⟩
  have b2 : Below W1.heap.size W1 W2 := by rw [← hal2]; exact alloc_bel W1 _
  have q2 : Blk RIT W1.heap.size #[.int .i64 0, .string ⟨#[]⟩, .int .i64 0, .int .i64 0, .int .i64 0, .slice none 0 0] W2 := by rw [← hal2]; exact Blk.made W1
  have q12 := q1.below b2 q1.lt
  have hrblt := q1.lt
  obtain ⟨rb, hrb⟩ : ∃ b, W1.heap.size = b := ⟨_, rfl⟩
  rw [hrb] at q2 hrblt
  have HRB := Lib.hid (show w.heap.size ≤ rb by omega)
  have HRB2 := Lib.hid (show w.heap.size < rb by omega)
  have HQ2 := Lib.hid q2
  have HR2 := Lib.hid q12
  have HB2 := Lib.hid (b1.trans (b2.mono b1.size))
  have c0 : W2.cell? ⟨w.heap.size, 0, none⟩ = some (.int .i64 (N : Int)) := q12.c 0 _ rfl
  have c1 : W2.cell? ⟨w.heap.size, 1, none⟩ = some (.slice a m cap) := q12.c 1 _ rfl
  have c2 : W2.cell? ⟨w.heap.size, 2, none⟩ = some (.int .u32 (last : Int)) := q12.c 2 _ rfl
  have c3 : W2.cell? ⟨w.heap.size, 3, none⟩ = some (.slice (some ⟨gb, off, none⟩) rn rc) := q12.c 3 _ rfl
  have HX := Lib.hid hx
  have HRS := Lib.hid (ris_any x W2)
  unfold lkV at HWD HSY HRDX ⊢
  unfold rhV at HFD
  clear b1 q1 b2 q2 q12 READ C hl hm e' hle hcm hcn hcell hra hrd hgl h13 hrn
  by_cases hodd : x % 2 = 1
  · rw [if_pos hodd]
    have hob : (x % 2 == 1) = true := by simp [hodd]
    rw [hob] at HRS
    have HSV := Lib.hid (rval_any x W2 hx)
    obtain ⟨V, hV⟩ : ∃ V, valW x = V := ⟨_, rfl⟩
    rw [hV] at HSV ⊢
    clear hodd hx hV hob HWD HSY HRDX HFD HRT HC HL HR
    go_enter Try.func13, Try.ntmps13
    go_wp2_with fail
    refine HRS.out.mono ?_; rintro e w3 ⟨rfl, rfl⟩
    go_wp2_with fail
    refine HSV.out.mono ?_; rintro e w3 ⟨rfl, rfl⟩
    have g0_ := HQ2.out.c 0 _ rfl
    have g1_ := HQ2.out.c 1 _ rfl
    have g2_ := HQ2.out.c 2 _ rfl
    have g3_ := HQ2.out.c 3 _ rfl
    have g4_ := HQ2.out.c 4 _ rfl
    have g5_ := HQ2.out.c 5 _ rfl
    have fz_ := HQ2.out.fz
    go_wp2_with fail
    obtain ⟨Wf, hWf⟩ : ∃ W, (((((W2.setCell ⟨rb, 0, none⟩ (.int .i64 1)).setCell ⟨rb, 1, none⟩ (.string ⟨#[]⟩)).setCell ⟨rb, 2, none⟩ (.int .i64 V)).setCell ⟨rb, 3, none⟩ (.int .i64 0)).setCell ⟨rb, 4, none⟩ (.int .i64 0)).setCell ⟨rb, 5, none⟩ (.slice none 0 0) = W := ⟨_, rfl⟩
    rw [hWf]
    have q_ : Blk RIT rb #[.int .i64 1, .string ⟨#[]⟩, .int .i64 V, .int .i64 0, .int .i64 0, .slice none 0 0] Wf := by rw [← hWf]; exact blk_set6 HQ2.out _ _ _ _ _ _
    have hbf_ : Below w.heap.size w Wf := by rw [← hWf]; exact bel_set6 HB2.out HRB.out _ _ _ _ _ _
    have r0_ := q_.c 0 _ rfl
    have r1_ := q_.c 1 _ rfl
    have r2_ := q_.c 2 _ rfl
    have r3_ := q_.c 3 _ rfl
    have r4_ := q_.c 4 _ rfl
    have r5_ := q_.c 5 _ rfl
    refine bodyPost_ret (v := .tuple #[.agg #[.int .i64 1, .string ⟨#[]⟩, .int .i64 V, .int .i64 0, .int .i64 0, .slice none 0 0], .int .i64 0]) (by simp [results, Try.results13, go_sem, r0_, r1_, r2_, r3_, r4_, r5_]) rfl ?_
    exact ⟨hbf_, none, 0, rfl, Its.nil _ _⟩
  rw [if_neg hodd]
  have hob : (x % 2 == 1) = false := by simp; omega
  rw [hob] at HRS
  obtain ⟨R, hRR⟩ : ∃ R : Except Int It, (if x = rt ⟨l, RW⟩ 0 then .ok (itm 5 0 [] [])
    else if x = rt ⟨l, RW⟩ 1 then .ok (itm 6 0 [] [])
    else if x = rt ⟨l, RW⟩ 2 then .ok (itm 7 0 [] [])
    else tailG ⟨l, RW⟩ (clsRef ⟨l, RW⟩) f deep x) = R := ⟨_, rfl⟩
  rw [hRR]
  have HRR := Lib.hid hRR
  clear hRR hodd hx hob
  go_enter Try.func13, Try.ntmps13
  go_wp2_with fail
  refine HRS.out.mono ?_; rintro e w3 ⟨rfl, rfl⟩
  go_wp2_with fail
  go_loopw [8] (fun y wr => ∃ k : Nat, y = .int .i64 (k : Int) ∧ k ≤ 3 ∧ (∀ j, j < k → x ≠ rt ⟨l, RW⟩ j) ∧ Hid (wr = W2)) (fun y _ => 3 - (intOf y).toNat)
  case atStart => exact ⟨0, rfl, by omega, fun j hj => by omega, Lib.hid rfl⟩
  case round =>
    obtain ⟨k, rfl, hk, hno, HWR⟩ := hrel
    have hwr := HWR.out
    clear HWR
    subst hwr
    have HNO := Lib.hid hno
    clear hno
    by_cases hk3 : k < 3
    · have hkd : decide ((k : Int) < 3) = true := by simp; omega
      have hkw : IntKind.i64.wrap ((k : Int) + 1) = (k : Int) + 1 := IntWalk.i64_in _ (by omega)
      have hk5 : IntKind.i64.wrap (5 + (k : Int)) = 5 + (k : Int) := IntWalk.i64_in _ (by omega)
      have hkr : (k : Int) < (rn : Int) := by omega
      have hkn : k < rn := by omega
      have rk := HRT.out k (by omega) wr HB2.out
      obtain ⟨pk, hpk⟩ : ∃ p, off + k = p := ⟨_, rfl⟩
      rw [hpk] at rk
      obtain ⟨rkv, hrk⟩ : ∃ r, RW.getD k 0 = r := ⟨_, rfl⟩
      rw [hrk] at rk
      have HRK := Lib.hid hrk
      clear hrk
      by_cases hxk : x = rkv
      · have hbq : ((x : Int) == (rkv : Int)) = true := by simp [hxk]
        have HRF : Hid (R = .ok (itm (5 + k) 0 [] [])) := Lib.hid (by
          rw [← HRR.out]
          exact rt_case hk3 (hxk.trans HRK.out.symm) HNO.out)
        clear hxk
        have g0_ := HQ2.out.c 0 _ rfl
        have g1_ := HQ2.out.c 1 _ rfl
        have g2_ := HQ2.out.c 2 _ rfl
        have g3_ := HQ2.out.c 3 _ rfl
        have g4_ := HQ2.out.c 4 _ rfl
        have g5_ := HQ2.out.c 5 _ rfl
        have fz_ := HQ2.out.fz
        go_wp2_with fail
        obtain ⟨Wf, hWf⟩ : ∃ W, (((((wr.setCell ⟨rb, 0, none⟩ (.int .i64 (5 + (k : Int)))).setCell ⟨rb, 1, none⟩ (.string ⟨#[]⟩)).setCell ⟨rb, 2, none⟩ (.int .i64 0)).setCell ⟨rb, 3, none⟩ (.int .i64 0)).setCell ⟨rb, 4, none⟩ (.int .i64 0)).setCell ⟨rb, 5, none⟩ (.slice none 0 0) = W := ⟨_, rfl⟩
        rw [hWf]
        have q_ : Blk RIT rb #[.int .i64 (5 + (k : Int)), .string ⟨#[]⟩, .int .i64 0, .int .i64 0, .int .i64 0, .slice none 0 0] Wf := by rw [← hWf]; exact blk_set6 HQ2.out _ _ _ _ _ _
        have hbf_ : Below w.heap.size w Wf := by rw [← hWf]; exact bel_set6 HB2.out HRB.out _ _ _ _ _ _
        have r0_ := q_.c 0 _ rfl
        have r1_ := q_.c 1 _ rfl
        have r2_ := q_.c 2 _ rfl
        have r3_ := q_.c 3 _ rfl
        have r4_ := q_.c 4 _ rfl
        have r5_ := q_.c 5 _ rfl
        refine bodyPost_ret (v := .tuple #[.agg #[.int .i64 (5 + (k : Int)), .string ⟨#[]⟩, .int .i64 0, .int .i64 0, .int .i64 0, .slice none 0 0], .int .i64 0]) (by simp [results, Try.results13, go_sem, r0_, r1_, r2_, r3_, r4_, r5_]) rfl ?_
        exact by rw [HRF.out]; exact ⟨hbf_, none, 0, by congr 1, Its.nil _ _⟩
      · have hbq : ((x : Int) == (rkv : Int)) = false := by simp; omega
        go_wp2_with fail
        exact ⟨⟨k + 1, by simp, by omega, fun j hj => by
          rcases Nat.lt_or_ge j k with h | h
          · exact HNO.out j h
          · obtain rfl : j = k := by omega
            show x ≠ RW.getD j 0
            rw [HRK.out]; exact hxk, Lib.hid (by trivial)⟩, by simp only [intOf]; omega⟩
    · obtain rfl : k = 3 := by omega
      have hkd : decide (((3 : Nat) : Int) < 3) = false := by decide
      have HRN : Hid (R = tailG ⟨l, RW⟩ (clsRef ⟨l, RW⟩) f deep x) := Lib.hid (by
        rw [← HRR.out, if_neg (HNO.out 0 (by omega)), if_neg (HNO.out 1 (by omega)), if_neg (HNO.out 2 (by omega))])
      have HLr := Lib.hid (HL.out.bel HB2.out)
      have HRr := Lib.hid (HR.out.below HB2.out)
      have HFr := Lib.hid (HFD.out wr HLr.out)
      cases hi : idxO l x with
      | none =>
        have hii : idxI l x = -1 := by unfold idxI; rw [hi]
        rw [hii] at HFr
        have HRF : Hid (R = .error 13) := Lib.hid (by rw [HRN.out]; exact tailG_none (idx_none hi))
        clear hi hii
        go_wp2_with fail
        refine HFr.out.mono ?_; rintro e w4 ⟨rfl, hb4⟩
        have HQ4 := Lib.hid (HQ2.out.below hb4 HQ2.out.lt)
        have HB4 := Lib.hid (HB2.out.trans (hb4.mono HB2.out.size))
        clear hb4 c0 c1 c2 c3
        have g0_ := HQ4.out.c 0 _ rfl
        have g1_ := HQ4.out.c 1 _ rfl
        have g2_ := HQ4.out.c 2 _ rfl
        have g3_ := HQ4.out.c 3 _ rfl
        have g4_ := HQ4.out.c 4 _ rfl
        have g5_ := HQ4.out.c 5 _ rfl
        have fz_ := HQ4.out.fz
        go_wp2_with fail
        obtain ⟨Wf, hWf⟩ : ∃ W, (((((w4.setCell ⟨rb, 0, none⟩ (.int .i64 0)).setCell ⟨rb, 1, none⟩ (.string ⟨#[]⟩)).setCell ⟨rb, 2, none⟩ (.int .i64 0)).setCell ⟨rb, 3, none⟩ (.int .i64 0)).setCell ⟨rb, 4, none⟩ (.int .i64 0)).setCell ⟨rb, 5, none⟩ (.slice none 0 0) = W := ⟨_, rfl⟩
        rw [hWf]
        have q_ : Blk RIT rb #[.int .i64 0, .string ⟨#[]⟩, .int .i64 0, .int .i64 0, .int .i64 0, .slice none 0 0] Wf := by rw [← hWf]; exact blk_set6 HQ4.out _ _ _ _ _ _
        have hbf_ : Below w.heap.size w Wf := by rw [← hWf]; exact bel_set6 HB4.out HRB.out _ _ _ _ _ _
        have r0_ := q_.c 0 _ rfl
        have r1_ := q_.c 1 _ rfl
        have r2_ := q_.c 2 _ rfl
        have r3_ := q_.c 3 _ rfl
        have r4_ := q_.c 4 _ rfl
        have r5_ := q_.c 5 _ rfl
        refine bodyPost_ret (v := .tuple #[.agg #[.int .i64 0, .string ⟨#[]⟩, .int .i64 0, .int .i64 0, .int .i64 0, .slice none 0 0], .int .i64 13]) (by simp [results, Try.results13, go_sem, r0_, r1_, r2_, r3_, r4_, r5_]) rfl ?_
        exact by rw [HRF.out]; exact ⟨hbf_, by decide, rfl⟩
      | some kx =>
        have hii : idxI l x = (kx : Int) := by unfold idxI; rw [hi]
        rw [hii] at HFr
        obtain ⟨o, ho, -, hfo⟩ := idx_some hi
        have hkm : kx < m := by
          have h1 := (List.getElem?_eq_some_iff.1 ho).1
          obtain ⟨a1, c1', e1, -, -⟩ := HL.out.form
          have h2 : m = l.length := by simp only [Value.slice.injEq] at e1; exact e1.2.1
          omega
        have hkm2 : (kx : Int) < (m : Int) := by omega
        have hk0 : (0 : Int) ≤ (kx : Int) := by omega
        have hkneg : decide ((kx : Int) < 0) = false := by simp
        have HRF : Hid (R = (if o.hd.cls = RW.getD 12 0 then .ok (itm 2 0 o.bytes [])
          else if o.hd.cls = RW.getD 13 0 then .ok (itm 3 0 o.bytes [])
          else if o.hd.cls = RW.getD 14 0 then arrG ⟨l, RW⟩ (clsRef ⟨l, RW⟩) f deep o.words
          else nameG (pairR l x (wordsO l (RW.getD 3 0))))) := Lib.hid (by rw [HRN.out, tailG_some hfo]; rfl)
        have HOW := Lib.hid (HC.out.wds o (List.mem_of_getElem? ho))
        have HOO := Lib.hid ho
        clear hii hi hfo
        go_wp2_with fail
        refine HFr.out.mono ?_; rintro e w4 ⟨rfl, hb4⟩
        have HL4 := Lib.hid (HLr.out.bel hb4)
        obtain ⟨g, oo, o', wv, bv, rfl, ho', -, hgl, hrow, hrw, hrbv⟩ := HL.out.nth kx hkm
        have hw4 : Below w.heap.size w w4 := HB2.out.trans (hb4.mono HB2.out.size)
        replace hrow := hrow.kp (fun i => World.cell?_of_block (a := ⟨g, i, none⟩) (hw4.block g hgl))
        clear hw4
        obtain rfl : o' = o := by rw [HOO.out] at ho'; exact (Option.some.inj ho').symm
        obtain ⟨wa, wc, rfl, -, -⟩ := hrw.form
        obtain ⟨ba, bc, rfl, -, -⟩ := hrbv.form
        obtain ⟨wn, hwn⟩ : ∃ q, o'.words.length = q := ⟨_, rfl⟩
        obtain ⟨bn, hbn⟩ : ∃ q, o'.bytes.length = q := ⟨_, rfl⟩
        rw [hwn, hbn] at hrow
        rw [hwn] at hrw
        rw [hbn] at hrbv
        have HWN := Lib.hid hwn
        have HBN := Lib.hid hbn
        clear hwn hbn ho'
        obtain ⟨⟨at_, ⟨kc, kk, kz, kh, km⟩, OW, OB⟩, rfl⟩ : ∃ o2, o' = o2 := ⟨_, rfl⟩
        unfold ORow at hrow
        dsimp only at hrow hrw hrbv HWN HBN HRF HOW
        obtain ⟨p0, hp0⟩ : ∃ p, oo + kx * 8 = p := ⟨_, rfl⟩
        rw [hp0] at hrow
        obtain ⟨r0, r1, r2, r3, r4, r5, r6, r7⟩ := hrow
        have HRW := Lib.hid hrw
        have HRBV := Lib.hid hrbv
        have qq := HR2.out.below hb4 HR2.out.lt
        have k0 : w4.cell? ⟨w.heap.size, 0, none⟩ = some (.int .i64 (N : Int)) := qq.c 0 _ rfl
        have k1 : w4.cell? ⟨w.heap.size, 1, none⟩ = some (.slice (some ⟨g, oo, none⟩) m cap) := qq.c 1 _ rfl
        have k3 : w4.cell? ⟨w.heap.size, 3, none⟩ = some (.slice (some ⟨gb, off, none⟩) rn rc) := qq.c 3 _ rfl
        have HQ4 := Lib.hid (HQ2.out.below hb4 HQ2.out.lt)
        have HK4 := Lib.hid qq
        have HB4 := Lib.hid (HB2.out.trans (hb4.mono HB2.out.size))
        have HR4 := Lib.hid (HRr.out.below hb4)
        clear hb4 qq hrw hrbv c0 c1 c2 c3
        obtain ⟨W5, hal5⟩ : ∃ W, w4.alloc (.cells #[.int .i64 (at_ : Int), .int .u64 (kc : Int), .int .i64 (kk : Int), .int .i64 (kz : Int), .int .u32 (kh : Int), .bool km, .slice wa wn wc, .slice ba bn bc] OT) = W := ⟨_, rfl⟩
        have b5 : Below w4.heap.size w4 W5 := by rw [← hal5]; exact alloc_bel w4 _
        have q5 : Blk OT w4.heap.size #[.int .i64 (at_ : Int), .int .u64 (kc : Int), .int .i64 (kk : Int), .int .i64 (kz : Int), .int .u32 (kh : Int), .bool km, .slice wa wn wc, .slice ba bn bc] W5 := by rw [← hal5]; exact Blk.made w4
        have HL5 := Lib.hid (HL4.out.bel b5)
        have HR5 := Lib.hid (HR4.out.below b5)
        have HRBV5 := Lib.hid (HRBV.out.below (HB4.out.trans (b5.mono HB4.out.size)))
        have HQ5 := Lib.hid (HQ4.out.below b5 HQ4.out.lt)
        have HK5 := Lib.hid (HK4.out.below b5 HK4.out.lt)
        have HB5 := Lib.hid (HB4.out.trans (b5.mono HB4.out.size))
        have HO5 := Lib.hid q5
        obtain ⟨ob, hob⟩ : ∃ b, w4.heap.size = b := ⟨_, rfl⟩
        have HOB5 : Hid (rb < ob ∧ ob < W5.heap.size) := Lib.hid (by have := HQ4.out.lt; have := q5.lt; omega)
        rw [hob] at HO5
        have r12 := HRT.out 12 (by omega) W5 HB5.out
        obtain ⟨p12, hp12⟩ : ∃ p, off + 12 = p := ⟨_, rfl⟩
        rw [hp12] at r12
        obtain ⟨p13, hp13⟩ : ∃ p, off + 13 = p := ⟨_, rfl⟩
        obtain ⟨p14, hp14⟩ : ∃ p, off + 14 = p := ⟨_, rfl⟩
        have r13 := HRT.out 13 (by omega) W5 HB5.out
        have r14 := HRT.out 14 (by omega) W5 HB5.out
        rw [hp13] at r13
        rw [hp14] at r14
        obtain ⟨v12, hv12⟩ : ∃ v, RW.getD 12 0 = v := ⟨_, rfl⟩
        obtain ⟨v13, hv13⟩ : ∃ v, RW.getD 13 0 = v := ⟨_, rfl⟩
        obtain ⟨v14, hv14⟩ : ∃ v, RW.getD 14 0 = v := ⟨_, rfl⟩
        rw [hv12] at r12
        rw [hv13] at r13 HSY
        rw [hv14] at r14
        rw [hv12, hv13, hv14] at HRF
        have i12 : (12 : Int) < (rn : Int) := by omega
        have i13 : (13 : Int) < (rn : Int) := by omega
        have i14 : (14 : Int) < (rn : Int) := by omega
        have d1 : W5.cell? ⟨ob, 1, none⟩ = some (.int .u64 (kc : Int)) := HO5.out.c 1 _ rfl
        have d6 : W5.cell? ⟨ob, 6, none⟩ = some (.slice wa wn wc) := HO5.out.c 6 _ rfl
        have d7 : W5.cell? ⟨ob, 7, none⟩ = some (.slice ba bn bc) := HO5.out.c 7 _ rfl
        have l0 : W5.cell? ⟨w.heap.size, 0, none⟩ = some (.int .i64 (N : Int)) := HK5.out.c 0 _ rfl
        have l1 : W5.cell? ⟨w.heap.size, 1, none⟩ = some (.slice (some ⟨g, oo, none⟩) m cap) := HK5.out.c 1 _ rfl
        have l2 : W5.cell? ⟨w.heap.size, 2, none⟩ = some (.int .u32 (last : Int)) := HK5.out.c 2 _ rfl
        have l3 : W5.cell? ⟨w.heap.size, 3, none⟩ = some (.slice (some ⟨gb, off, none⟩) rn rc) := HK5.out.c 3 _ rfl
        have HAL5 := Lib.hid hal5
        clear b5 q5 hal5 hv12 hv13 hv14
        go_upto_region 12 with fail
        have hal5 := HAL5.out
        rw [hal5]
        clear hal5 HAL5 r0 r1 r2 r3 r4 r5 r6 r7 k0 k1 k3
        have hcv : (convert 48 9 (.slice ba bn bc)).run Try.prog W5 = .ok (.string ⟨OB.toArray⟩) W5 := by
          have h := rd_text (P := Try.prog) 48 9 5 (by kernel_rfl) (by kernel_rfl) (by kernel_rfl) HRBV5.out
          exact h
        try rw [hob]
        by_cases h12 : kc = v12
        · have hbq : ((kc : Int) == (v12 : Int)) = true := by simp [h12]
          have HRG : Hid (R = .ok (itm 2 0 OB [])) := Lib.hid (by rw [HRF.out, if_pos h12])
          clear h12
          have g0_ := HQ5.out.c 0 _ rfl
          have g1_ := HQ5.out.c 1 _ rfl
          have g2_ := HQ5.out.c 2 _ rfl
          have g3_ := HQ5.out.c 3 _ rfl
          have g4_ := HQ5.out.c 4 _ rfl
          have g5_ := HQ5.out.c 5 _ rfl
          have fz_ := HQ5.out.fz
          go_wp2_with fail
          obtain ⟨Wf, hWf⟩ : ∃ W, (((((W5.setCell ⟨rb, 0, none⟩ (.int .i64 2)).setCell ⟨rb, 1, none⟩ (.string ⟨OB.toArray⟩)).setCell ⟨rb, 2, none⟩ (.int .i64 0)).setCell ⟨rb, 3, none⟩ (.int .i64 0)).setCell ⟨rb, 4, none⟩ (.int .i64 0)).setCell ⟨rb, 5, none⟩ (.slice none 0 0) = W := ⟨_, rfl⟩
          rw [hWf]
          have q_ : Blk RIT rb #[.int .i64 2, .string ⟨OB.toArray⟩, .int .i64 0, .int .i64 0, .int .i64 0, .slice none 0 0] Wf := by rw [← hWf]; exact blk_set6 HQ5.out _ _ _ _ _ _
          have hbf_ : Below w.heap.size w Wf := by rw [← hWf]; exact bel_set6 HB5.out HRB.out _ _ _ _ _ _
          have r0_ := q_.c 0 _ rfl
          have r1_ := q_.c 1 _ rfl
          have r2_ := q_.c 2 _ rfl
          have r3_ := q_.c 3 _ rfl
          have r4_ := q_.c 4 _ rfl
          have r5_ := q_.c 5 _ rfl
          refine bodyPost_ret (v := .tuple #[.agg #[.int .i64 2, .string ⟨OB.toArray⟩, .int .i64 0, .int .i64 0, .int .i64 0, .slice none 0 0], .int .i64 0]) (by simp [results, Try.results13, go_sem, r0_, r1_, r2_, r3_, r4_, r5_]) rfl ?_
          exact by rw [HRG.out]; exact ⟨hbf_, none, 0, rfl, Its.nil _ _⟩
        have hbq : ((kc : Int) == (v12 : Int)) = false := by simp; omega
        replace HRF := Lib.hid (HRF.out.trans (if_neg h12))
        clear h12
        by_cases h13 : kc = v13
        · have hbq3 : ((kc : Int) == (v13 : Int)) = true := by simp [h13]
          have HRG : Hid (R = .ok (itm 3 0 OB [])) := Lib.hid (by rw [HRF.out, if_pos h13])
          clear h13
          have g0_ := HQ5.out.c 0 _ rfl
          have g1_ := HQ5.out.c 1 _ rfl
          have g2_ := HQ5.out.c 2 _ rfl
          have g3_ := HQ5.out.c 3 _ rfl
          have g4_ := HQ5.out.c 4 _ rfl
          have g5_ := HQ5.out.c 5 _ rfl
          have fz_ := HQ5.out.fz
          go_wp2_with fail
          obtain ⟨Wf, hWf⟩ : ∃ W, (((((W5.setCell ⟨rb, 0, none⟩ (.int .i64 3)).setCell ⟨rb, 1, none⟩ (.string ⟨OB.toArray⟩)).setCell ⟨rb, 2, none⟩ (.int .i64 0)).setCell ⟨rb, 3, none⟩ (.int .i64 0)).setCell ⟨rb, 4, none⟩ (.int .i64 0)).setCell ⟨rb, 5, none⟩ (.slice none 0 0) = W := ⟨_, rfl⟩
          rw [hWf]
          have q_ : Blk RIT rb #[.int .i64 3, .string ⟨OB.toArray⟩, .int .i64 0, .int .i64 0, .int .i64 0, .slice none 0 0] Wf := by rw [← hWf]; exact blk_set6 HQ5.out _ _ _ _ _ _
          have hbf_ : Below w.heap.size w Wf := by rw [← hWf]; exact bel_set6 HB5.out HRB.out _ _ _ _ _ _
          have r0_ := q_.c 0 _ rfl
          have r1_ := q_.c 1 _ rfl
          have r2_ := q_.c 2 _ rfl
          have r3_ := q_.c 3 _ rfl
          have r4_ := q_.c 4 _ rfl
          have r5_ := q_.c 5 _ rfl
          refine bodyPost_ret (v := .tuple #[.agg #[.int .i64 3, .string ⟨OB.toArray⟩, .int .i64 0, .int .i64 0, .int .i64 0, .slice none 0 0], .int .i64 0]) (by simp [results, Try.results13, go_sem, r0_, r1_, r2_, r3_, r4_, r5_]) rfl ?_
          exact by rw [HRG.out]; exact ⟨hbf_, none, 0, rfl, Its.nil _ _⟩
        have hbq3 : ((kc : Int) == (v13 : Int)) = false := by simp; omega
        replace HRF := Lib.hid (HRF.out.trans (if_neg h13))
        clear h13 hcv d7
        by_cases h14 : kc = v14
        · have hbq4 : ((kc : Int) == (v14 : Int)) = true := by simp [h14]
          replace HRF := Lib.hid (HRF.out.trans (if_pos h14))
          clear h14 HWD HSY HRN HRR HNO HFD HFr HBN HRBV HRBV5
          by_cases hdp : 40 < deep
          · have hdd : decide ((40 : Int) < (deep : Int)) = true := by simp; omega
            have HRG : Hid (R = .error 10) := Lib.hid (by rw [HRF.out]; unfold arrG; rw [if_pos hdp])
            clear hdp
            have g0_ := HQ5.out.c 0 _ rfl
            have g1_ := HQ5.out.c 1 _ rfl
            have g2_ := HQ5.out.c 2 _ rfl
            have g3_ := HQ5.out.c 3 _ rfl
            have g4_ := HQ5.out.c 4 _ rfl
            have g5_ := HQ5.out.c 5 _ rfl
            have fz_ := HQ5.out.fz
            go_wp2_with fail
            obtain ⟨Wf, hWf⟩ : ∃ W, (((((W5.setCell ⟨rb, 0, none⟩ (.int .i64 0)).setCell ⟨rb, 1, none⟩ (.string ⟨#[]⟩)).setCell ⟨rb, 2, none⟩ (.int .i64 0)).setCell ⟨rb, 3, none⟩ (.int .i64 0)).setCell ⟨rb, 4, none⟩ (.int .i64 0)).setCell ⟨rb, 5, none⟩ (.slice none 0 0) = W := ⟨_, rfl⟩
            rw [hWf]
            have q_ : Blk RIT rb #[.int .i64 0, .string ⟨#[]⟩, .int .i64 0, .int .i64 0, .int .i64 0, .slice none 0 0] Wf := by rw [← hWf]; exact blk_set6 HQ5.out _ _ _ _ _ _
            have hbf_ : Below w.heap.size w Wf := by rw [← hWf]; exact bel_set6 HB5.out HRB.out _ _ _ _ _ _
            have r0_ := q_.c 0 _ rfl
            have r1_ := q_.c 1 _ rfl
            have r2_ := q_.c 2 _ rfl
            have r3_ := q_.c 3 _ rfl
            have r4_ := q_.c 4 _ rfl
            have r5_ := q_.c 5 _ rfl
            refine bodyPost_ret (v := .tuple #[.agg #[.int .i64 0, .string ⟨#[]⟩, .int .i64 0, .int .i64 0, .int .i64 0, .slice none 0 0], .int .i64 10]) (by simp [results, Try.results13, go_sem, r0_, r1_, r2_, r3_, r4_, r5_]) rfl ?_
            exact by rw [HRG.out]; exact ⟨hbf_, by decide, rfl⟩
          have hdd : decide ((40 : Int) < (deep : Int)) = false := by simp; omega
          have hdw : IntKind.i64.wrap ((deep : Int) + 1) = ((deep + 1 : Nat) : Int) := by rw [IntWalk.i64_in _ (by omega)]; push_cast; rfl
          have HRX := Lib.hid (HRDX.out (by omega))
          have HRG : Hid (R = arrW (allE (fun x => readG ⟨l, RW⟩ 13 10 (clsRef ⟨l, RW⟩) f x (deep + 1)) OW)) := Lib.hid (by rw [HRF.out]; unfold arrG; rw [if_neg hdp])
          obtain ⟨dd1, hd1⟩ : ∃ d, deep + 1 = d := ⟨_, rfl⟩
          rw [hd1] at HRX hdw HRG
          obtain ⟨F, hF⟩ : ∃ F : Nat → Except Int It, (fun x => readG ⟨l, RW⟩ 13 10 (clsRef ⟨l, RW⟩) f x dd1) = F := ⟨_, rfl⟩
          have HRX2 : Hid (∀ (x : Nat) (w : World), Obs S w (.slice (some ⟨g, oo, none⟩) m cap) l → Rd S uV w (.slice (some ⟨gb, off, none⟩) rn rc) RW → x < 18446744073709551616 → Calls Try.prog 13 #[.agg #[.int .i64 (N : Int), .slice (some ⟨g, oo, none⟩) m cap, .int .u32 (last : Int), .slice (some ⟨gb, off, none⟩) rn rc], .int .u64 (x : Int), .int .i64 (dd1 : Int)] w (RdR (F x) w)) := Lib.hid (by rw [← hF]; exact HRX.out)
          rw [hF] at HRG
          obtain ⟨W6, hal6⟩ : ∃ W, W5.alloc (.cells #[.int .i64 4, .string ⟨#[]⟩, .int .i64 0, .int .i64 0, .int .i64 0, .slice none 0 0] RIT) = W := ⟨_, rfl⟩
          have b6 : Below W5.heap.size W5 W6 := by rw [← hal6]; exact alloc_bel W5 _
          have q6 : Blk RIT W5.heap.size #[.int .i64 4, .string ⟨#[]⟩, .int .i64 0, .int .i64 0, .int .i64 0, .slice none 0 0] W6 := by rw [← hal6]; exact Blk.made W5
          obtain ⟨nb, hnb⟩ : ∃ b, W5.heap.size = b := ⟨_, rfl⟩
          have HI6 : Hid (RfI w.heap.size ob rb nb W6.heap.size #[.int .i64 (N : Int), .slice (some ⟨g, oo, none⟩) m cap, .int .u32 (last : Int), .slice (some ⟨gb, off, none⟩) rn rc] #[.int .i64 (at_ : Int), .int .u64 (kc : Int), .int .i64 (kk : Int), .int .i64 (kz : Int), .int .u32 (kh : Int), .bool km, .slice wa wn wc, .slice ba bn bc] (.slice none 0 0) [] w W6) :=
            Lib.hid ⟨HB5.out.trans (b6.mono HB5.out.size), HK5.out.below b6 HK5.out.lt, HO5.out.below b6 HO5.out.lt, HQ5.out.below b6 HQ5.out.lt, by rw [← hnb]; exact q6, OwnI.nil _ _ _ _, Nat.le_refl _⟩
          have HNB : Hid (w.heap.size < rb ∧ rb < ob ∧ ob < nb ∧ nb < W6.heap.size) := Lib.hid (by have := HOB5.out; have := q6.lt; have := HRB2.out; omega)
          have HL6 := Lib.hid (HL5.out.bel b6)
          have HR6 := Lib.hid (HR5.out.below b6)
          have HAL6 := Lib.hid hal6
          clear b6 q6 hF hal6 HRX HRDX hdp
          go_upto_region 21 with fail
          have hal6 := HAL6.out
          rw [hal6]
          try rw [hnb]
          clear hal6 HAL6 l0 l1 l2 l3 d1 d6 r12 r13 r14
          obtain ⟨Bn, hBn⟩ : ∃ b, W6.heap.size = b := ⟨_, rfl⟩
          rw [hBn] at HI6 HNB
          have hwn2 : (wn : Int) ≤ 2000000 := by have := HOW.out.1; have := HWN.out; omega
          go_wp2_with fail
          go_loopw [12, 13, 14] (fun y _ _ wr => ∃ k : Nat, y = .int .i64 (k : Int) ∧ k ≤ wn ∧ Hid (∃ kv r, RfI w.heap.size ob rb nb Bn #[.int .i64 (N : Int), .slice (some ⟨g, oo, none⟩) m cap, .int .u32 (last : Int), .slice (some ⟨gb, off, none⟩) rn rc] #[.int .i64 (at_ : Int), .int .u64 (kc : Int), .int .i64 (kk : Int), .int .i64 (kz : Int), .int .u32 (kh : Int), .bool km, .slice wa wn wc, .slice ba bn bc] kv r w wr ∧ r.length = k ∧ allE F (OW.take k) = .ok r)) (fun y _ _ _ => wn - (intOf y).toNat)
          case atStart => exact ⟨0, rfl, Nat.zero_le _, Lib.hid ⟨_, _, HI6.out, rfl, rfl⟩⟩
          case round =>
            obtain ⟨k, rfl, hkz, HE⟩ := hrel
            obtain ⟨kv, r, hI, hrl, hal⟩ := HE.out
            have HIr := Lib.hid hI
            have HRL := Lib.hid hrl
            have HALE := Lib.hid hal
            clear HE hI hrl hal
            have m6 : wr.cell? ⟨ob, 6, none⟩ = some (.slice wa wn wc) := HIr.out.ob_.c 6 _ rfl
            by_cases hk : k < wn
            · have hkd : decide ((k : Int) < (wn : Int)) = true := by simpa using hk
              have hki : (k : Int) < (wn : Int) := by omega
              have hk00 : (0 : Int) ≤ (k : Int) := by omega
              have hkw : IntKind.i64.wrap ((k : Int) + 1) = (k : Int) + 1 := IntWalk.i64_in _ (by omega)
              obtain ⟨wb, wo, y', hwa, hy', hwbl, hcy⟩ := HRW.out.at_ k hk
              subst hwa
              unfold uV at hcy
              obtain ⟨pj, hpj⟩ : ∃ p, wo + k = p := ⟨_, rfl⟩
              rw [hpj] at hcy
              have HY := Lib.hid hy'
              have HYL : Hid (y' < 18446744073709551616) := Lib.hid (HOW.out.2 y' (List.mem_of_getElem? hy'))
              have HS3 := Lib.hid (show ∀ v, Below wr.heap.size wr v → (v.cell? ⟨w.heap.size, 0, none⟩ = some (.int .i64 (N : Int)) ∧ v.cell? ⟨w.heap.size, 1, none⟩ = some (.slice (some ⟨g, oo, none⟩) m cap) ∧ v.cell? ⟨w.heap.size, 2, none⟩ = some (.int .u32 (last : Int)) ∧ v.cell? ⟨w.heap.size, 3, none⟩ = some (.slice (some ⟨gb, off, none⟩) rn rc) ∧ v.cell? ⟨ob, 6, none⟩ = some (.slice (some ⟨wb, wo, none⟩) wn wc) ∧ v.cell? ⟨wb, pj, none⟩ = some (.int .u64 (y' : Int))) from fun v hv => by
                have h := HIr.out.bl hv
                exact ⟨h.lk.c 0 _ rfl, h.lk.c 1 _ rfl, h.lk.c 2 _ rfl, h.lk.c 3 _ rfl, h.ob_.c 6 _ rfl, (World.cell?_of_block (a := ⟨wb, pj, none⟩) (h.bel.block wb hwbl)).trans hcy⟩)
              have HRK : Hid (∀ v, Below w.heap.size w v → Calls Try.prog 13 #[.agg #[.int .i64 (N : Int), .slice (some ⟨g, oo, none⟩) m cap, .int .u32 (last : Int), .slice (some ⟨gb, off, none⟩) rn rc], .int .u64 (y' : Int), .int .i64 (dd1 : Int)] v (RdR (F y') v)) := Lib.hid (fun v hv => HRX2.out y' v (HL.out.bel hv) (HR.out.below hv) HYL.out)
              clear hy' hwbl hcy
              go_upto_region 24 with fail
              go_cut [13, 14] from 84 to 112 (fun s13 s14 wx => ∃ (pb : Nat) (er : Int), s13 = .pointer (some ⟨pb, 0, none⟩) ∧ s14 = .int .i64 er ∧ Hid (RfI w.heap.size ob rb nb Bn #[.int .i64 (N : Int), .slice (some ⟨g, oo, none⟩) m cap, .int .u32 (last : Int), .slice (some ⟨gb, off, none⟩) rn rc] #[.int .i64 (at_ : Int), .int .u64 (kc : Int), .int .i64 (kk : Int), .int .i64 (kz : Int), .int .u32 (kh : Int), .bool km, .slice (some ⟨wb, wo, none⟩) wn wc, .slice ba bn bc] kv r w wx ∧ RfX (F y') wr.heap.size pb er wx ∧ wr.heap.size ≤ pb))
              case first =>
                have hbd : Below wr.heap.size wr wr.drew := below_drewN wr 1
                obtain ⟨V0, hV0⟩ : ∃ V, wr.drew = V := ⟨_, rfl⟩
                rw [hV0] at hbd
                have HBD := Lib.hid hbd
                have hsz0 : V0.heap.size = wr.heap.size := by rw [← hV0]; rfl
                have HSZ := Lib.hid hsz0
                clear hbd hsz0 m6
                refine wp_region_noPanic ?_
                refine Hd.start (fun v => v.cell? ⟨w.heap.size, 0, none⟩ = some (.int .i64 (N : Int)) ∧ v.cell? ⟨w.heap.size, 1, none⟩ = some (.slice (some ⟨g, oo, none⟩) m cap) ∧ v.cell? ⟨w.heap.size, 2, none⟩ = some (.int .u32 (last : Int)) ∧ v.cell? ⟨w.heap.size, 3, none⟩ = some (.slice (some ⟨gb, off, none⟩) rn rc) ∧ v.cell? ⟨ob, 6, none⟩ = some (.slice (some ⟨wb, wo, none⟩) wn wc) ∧ v.cell? ⟨wb, pj, none⟩ = some (.int .u64 (y' : Int))) (by kernel_rfl) (HS3.out _ (below_drewN wr 1)) (fun hH0 => ?_)
                rw [hV0]
                rw [hV0] at hH0
                clear hV0
                refine Hd.tk 0 8 hH0 ?_
                refine Hd.tk 1 2 hH0 ?_
                refine Hd.tk 2 4 hH0 ?_
                refine Hd.tk 3 4 hH0 ?_
                refine Hd.tk 4 5 hH0 ?_
                refine Hd.tk 5 8 hH0 ?_
                refine Hd.tk 6 7 hH0 ?_
                refine Hd.tk 7 8 hH0 ?_
                refine Hd.two 8 12 (o := ?_) (p := ?_) ?_ ?_ (by kernel_rfl) (fun K hK => ?_) (fun K hK => ?_)
                rotate_left 2
                · simp only [List.getElem?_toArray, List.getElem?_cons_succ, List.getElem?_cons_zero]
                  exact rfl
                · simp only [List.getElem?_toArray, List.getElem?_cons_succ, List.getElem?_cons_zero]
                  exact rfl
                · skip
                  go_simp
                  refine (HRK.out V0 (HIr.out.bel.trans (HBD.out.mono HIr.out.bel.size))).mono ?_; intro e w7 hr7
                  obtain ⟨ik, is, inn, isl, iwd, ika, ikn, ikc, ier, rfl⟩ := hr7.form
                  have hb7 : Below V0.heap.size V0 w7 := hr7.1
                  have hbr7 : Below wr.heap.size wr w7 := HBD.out.trans (hb7.mono HBD.out.size)
                  have HR7 := Lib.hid hr7
                  have HBR7 := Lib.hid hbr7
                  have HS7 := HS3.out w7 hbr7
                  clear hr7 hb7 hbr7
                  refine hK.out _ _ HS7 (fun hH1 => ?_)
                  clear hK K
                  try simp only [Act.put, List.setIfInBounds_toArray, List.set_cons_zero, List.set_cons_succ]
                  refine Hd.tk 9 10 hH1 ?_
                  refine Hd.tk 10 13 hH1 ?_
                  refine Hd.tk 11 14 hH1 ?_
                  obtain ⟨W8, hal8⟩ : ∃ W, w7.alloc (.cells #[.int .i64 0, .string ⟨#[]⟩, .int .i64 0, .int .i64 0, .int .i64 0, .slice none 0 0] RIT) = W := ⟨_, rfl⟩
                  have b8 : Below w7.heap.size w7 W8 := by rw [← hal8]; exact alloc_bel w7 _
                  have q8 : Blk RIT w7.heap.size #[.int .i64 0, .string ⟨#[]⟩, .int .i64 0, .int .i64 0, .int .i64 0, .slice none 0 0] W8 := by rw [← hal8]; exact Blk.made w7
                  have HB8 := Lib.hid (HBR7.out.trans (b8.mono HBR7.out.size))
                  have HB78 := Lib.hid b8
                  have HS8 := HS3.out W8 HB8.out
                  clear b8
                  refine Hd.on 12 (fun K hK => ?_)
                  go_simp
                  refine hK.out _ _ HS8 (fun hH2 => ?_)
                  clear hK K
                  try simp only [Act.put, List.setIfInBounds_toArray, List.set_cons_zero, List.set_cons_succ]
                  have e0 : W8.cell? ⟨w7.heap.size, 0, none⟩ = some (.int .i64 0) := q8.c 0 _ rfl
                  have e1 : W8.cell? ⟨w7.heap.size, 1, none⟩ = some (.string ⟨#[]⟩) := q8.c 1 _ rfl
                  have e2 : W8.cell? ⟨w7.heap.size, 2, none⟩ = some (.int .i64 0) := q8.c 2 _ rfl
                  have e3 : W8.cell? ⟨w7.heap.size, 3, none⟩ = some (.int .i64 0) := q8.c 3 _ rfl
                  have e4 : W8.cell? ⟨w7.heap.size, 4, none⟩ = some (.int .i64 0) := q8.c 4 _ rfl
                  have e5 : W8.cell? ⟨w7.heap.size, 5, none⟩ = some (.slice none 0 0) := q8.c 5 _ rfl
                  have ef := q8.fz
                  have HQ8 := Lib.hid q8
                  clear q8
                  obtain ⟨Wf, hWf⟩ : ∃ W, (((((W8.setCell ⟨w7.heap.size, 0, none⟩ (.int .i64 ik)).setCell ⟨w7.heap.size, 1, none⟩ (.string is)).setCell ⟨w7.heap.size, 2, none⟩ (.int .i64 inn)).setCell ⟨w7.heap.size, 3, none⟩ (.int .i64 isl)).setCell ⟨w7.heap.size, 4, none⟩ (.int .i64 iwd)).setCell ⟨w7.heap.size, 5, none⟩ (.slice ika ikn ikc) = W := ⟨_, rfl⟩
                  have hq9 : Blk RIT w7.heap.size #[.int .i64 ik, .string is, .int .i64 inn, .int .i64 isl, .int .i64 iwd, .slice ika ikn ikc] Wf := by rw [← hWf]; exact blk_set6 HQ8.out _ _ _ _ _ _
                  have hb9 : Below wr.heap.size wr Wf := by rw [← hWf]; exact bel_set6 HB8.out HBR7.out.size _ _ _ _ _ _
                  have hkp9 : Kp (fun b => V0.heap.size ≤ b) w7 Wf := ⟨by rw [← hWf, set6_size]; exact HB78.out.size, fun b _ hl => by rw [← hWf, set6_heap _ _ _ _ _ _ b (by omega)]; exact HB78.out.block b hl⟩
                  have HX : Hid (RfX (F y') wr.heap.size w7.heap.size ier Wf) := Lib.hid (HR7.out.rfx hq9 hkp9 (by rw [HSZ.out]; exact Nat.le_refl _))
                  have HB9 := Lib.hid hb9
                  have HS9 := HS3.out Wf hb9
                  clear hq9 hkp9 hb9
                  refine Hd.on 13 (fun K hK => ?_)
                  go_simp
                  refine hK.out _ _ HS9 (fun hH3 => ?_)
                  clear hK K
                  try simp only [Act.put, List.setIfInBounds_toArray, List.set_cons_zero, List.set_cons_succ]
                  refine Hd.la 14 (fun K hK => ?_)
                  go_simp
                  refine hK.out _ _ ?_
                  clear hK K
                  try simp only [Act.put, List.setIfInBounds_toArray, List.set_cons_zero, List.set_cons_succ]
                  simp only [NoPanic]
                  go_wp2_with fail
                  go_meet
                  exact ⟨w7.heap.size, ier, rfl, rfl, Lib.hid ⟨HIr.out.bl HB9.out, HX.out, HBR7.out.size⟩⟩
                · skip
                  go_simp
                  obtain ⟨W8, hal8⟩ : ∃ W, V0.alloc (.cells #[.int .i64 0, .string ⟨#[]⟩, .int .i64 0, .int .i64 0, .int .i64 0, .slice none 0 0] RIT) = W := ⟨_, rfl⟩
                  have b8 : Below V0.heap.size V0 W8 := by rw [← hal8]; exact alloc_bel V0 _
                  have q8 : Blk RIT V0.heap.size #[.int .i64 0, .string ⟨#[]⟩, .int .i64 0, .int .i64 0, .int .i64 0, .slice none 0 0] W8 := by rw [← hal8]; exact Blk.made V0
                  have HB8 := Lib.hid (HBD.out.trans (b8.mono HBD.out.size))
                  have HS8 := HS3.out W8 HB8.out
                  have HQ8 := Lib.hid q8
                  have HV8 : Hid (V0.heap.size < W8.heap.size) := Lib.hid q8.lt
                  clear b8 q8
                  try rw [hal8]
                  clear hal8
                  refine hK.out _ _ HS8 (fun hH1 => ?_)
                  clear hK K
                  try simp only [Act.put, List.setIfInBounds_toArray, List.set_cons_zero, List.set_cons_succ]
                  refine Hd.on 8 (fun K hK => ?_)
                  go_simp
                  refine (HRK.out W8 (HIr.out.bel.trans (HB8.out.mono HIr.out.bel.size))).mono ?_; intro e w7 hr7
                  obtain ⟨ik, is, inn, isl, iwd, ika, ikn, ikc, ier, rfl⟩ := hr7.form
                  have hb7 : Below W8.heap.size W8 w7 := hr7.1
                  have hbr7 : Below wr.heap.size wr w7 := HB8.out.trans (hb7.mono HB8.out.size)
                  have q7 := HQ8.out.below hb7 HQ8.out.lt
                  have HR7 := Lib.hid hr7
                  have HBR7 := Lib.hid hbr7
                  have HS7 := HS3.out w7 hbr7
                  clear hr7 hb7 hbr7
                  refine hK.out _ _ HS7 (fun hH2 => ?_)
                  clear hK K
                  try simp only [Act.put, List.setIfInBounds_toArray, List.set_cons_zero, List.set_cons_succ]
                  refine Hd.tk 9 10 hH2 ?_
                  refine Hd.tk 10 13 hH2 ?_
                  refine Hd.tk 11 14 hH2 ?_
                  have e0 : w7.cell? ⟨V0.heap.size, 0, none⟩ = some (.int .i64 0) := q7.c 0 _ rfl
                  have e1 : w7.cell? ⟨V0.heap.size, 1, none⟩ = some (.string ⟨#[]⟩) := q7.c 1 _ rfl
                  have e2 : w7.cell? ⟨V0.heap.size, 2, none⟩ = some (.int .i64 0) := q7.c 2 _ rfl
                  have e3 : w7.cell? ⟨V0.heap.size, 3, none⟩ = some (.int .i64 0) := q7.c 3 _ rfl
                  have e4 : w7.cell? ⟨V0.heap.size, 4, none⟩ = some (.int .i64 0) := q7.c 4 _ rfl
                  have e5 : w7.cell? ⟨V0.heap.size, 5, none⟩ = some (.slice none 0 0) := q7.c 5 _ rfl
                  have ef := q7.fz
                  have HQ7 := Lib.hid q7
                  clear q7
                  obtain ⟨Wf, hWf⟩ : ∃ W, (((((w7.setCell ⟨V0.heap.size, 0, none⟩ (.int .i64 ik)).setCell ⟨V0.heap.size, 1, none⟩ (.string is)).setCell ⟨V0.heap.size, 2, none⟩ (.int .i64 inn)).setCell ⟨V0.heap.size, 3, none⟩ (.int .i64 isl)).setCell ⟨V0.heap.size, 4, none⟩ (.int .i64 iwd)).setCell ⟨V0.heap.size, 5, none⟩ (.slice ika ikn ikc) = W := ⟨_, rfl⟩
                  have hq9 : Blk RIT V0.heap.size #[.int .i64 ik, .string is, .int .i64 inn, .int .i64 isl, .int .i64 iwd, .slice ika ikn ikc] Wf := by rw [← hWf]; exact blk_set6 HQ7.out _ _ _ _ _ _
                  have hb9 : Below wr.heap.size wr Wf := by rw [← hWf]; exact bel_set6 HBR7.out (Nat.le_of_eq HSZ.out.symm) _ _ _ _ _ _
                  have hkp9 : Kp (fun b => W8.heap.size ≤ b) w7 Wf := ⟨by rw [← hWf, set6_size]; exact Nat.le_refl _, fun b hb hl => by rw [← hWf, set6_heap _ _ _ _ _ _ b (by have := HV8.out; have hb : W8.heap.size ≤ b := hb; omega)]⟩
                  have HX : Hid (RfX (F y') wr.heap.size V0.heap.size ier Wf) := Lib.hid (HR7.out.rfx hq9 hkp9 (by have := HV8.out; have := HSZ.out; omega))
                  have HB9 := Lib.hid hb9
                  have HS9 := HS3.out Wf hb9
                  clear hq9 hkp9 hb9
                  refine Hd.on 13 (fun K hK => ?_)
                  go_simp
                  refine hK.out _ _ HS9 (fun hH3 => ?_)
                  clear hK K
                  try simp only [Act.put, List.setIfInBounds_toArray, List.set_cons_zero, List.set_cons_succ]
                  refine Hd.la 14 (fun K hK => ?_)
                  go_simp
                  refine hK.out _ _ ?_
                  clear hK K
                  try simp only [Act.put, List.setIfInBounds_toArray, List.set_cons_zero, List.set_cons_succ]
                  simp only [NoPanic]
                  go_wp2_with fail
                  go_meet
                  exact ⟨V0.heap.size, ier, rfl, rfl, Lib.hid ⟨HIr.out.bl HB9.out, HX.out, Nat.le_of_eq HSZ.out.symm⟩⟩
              case rest =>
                rename World => wx
                obtain ⟨pb, er, rfl, rfl, hX⟩ := hcut
                obtain ⟨hI, hx, hpb⟩ := hX.out
                have HIx := Lib.hid hI
                have HPB := Lib.hid hpb
                clear hX hI hpb m6
                cases hFy : F y' with
                | error e1 =>
                  rw [hFy] at hx
                  obtain ⟨hne, rfl, -⟩ := hx
                  have hneb : (er != 0) = true := by simpa using hne
                  have HRH : Hid (R = .error er) := Lib.hid (by rw [HRG.out, take_cons HY.out, allE_err _ HALE.out hFy]; rfl)
                  have HNE := Lib.hid hne
                  have HQx := Lib.hid HIx.out.res
                  have HBx := Lib.hid HIx.out.bel
                  clear hne hFy
                  have g0_ := HQx.out.c 0 _ rfl
                  have g1_ := HQx.out.c 1 _ rfl
                  have g2_ := HQx.out.c 2 _ rfl
                  have g3_ := HQx.out.c 3 _ rfl
                  have g4_ := HQx.out.c 4 _ rfl
                  have g5_ := HQx.out.c 5 _ rfl
                  have fz_ := HQx.out.fz
                  go_wp2_with fail
                  obtain ⟨Wf, hWf⟩ : ∃ W, (((((wx.setCell ⟨rb, 0, none⟩ (.int .i64 0)).setCell ⟨rb, 1, none⟩ (.string ⟨#[]⟩)).setCell ⟨rb, 2, none⟩ (.int .i64 0)).setCell ⟨rb, 3, none⟩ (.int .i64 0)).setCell ⟨rb, 4, none⟩ (.int .i64 0)).setCell ⟨rb, 5, none⟩ (.slice none 0 0) = W := ⟨_, rfl⟩
                  rw [hWf]
                  have q_ : Blk RIT rb #[.int .i64 0, .string ⟨#[]⟩, .int .i64 0, .int .i64 0, .int .i64 0, .slice none 0 0] Wf := by rw [← hWf]; exact blk_set6 HQx.out _ _ _ _ _ _
                  have hbf_ : Below w.heap.size w Wf := by rw [← hWf]; exact bel_set6 HBx.out HRB.out _ _ _ _ _ _
                  have r0_ := q_.c 0 _ rfl
                  have r1_ := q_.c 1 _ rfl
                  have r2_ := q_.c 2 _ rfl
                  have r3_ := q_.c 3 _ rfl
                  have r4_ := q_.c 4 _ rfl
                  have r5_ := q_.c 5 _ rfl
                  refine bodyPost_ret (v := .tuple #[.agg #[.int .i64 0, .string ⟨#[]⟩, .int .i64 0, .int .i64 0, .int .i64 0, .slice none 0 0], .int .i64 er]) (by simp [results, Try.results13, go_sem, r0_, r1_, r2_, r3_, r4_, r5_]) rfl ?_
                  exact by rw [HRH.out]; exact ⟨hbf_, HNE.out, rfl⟩
                | ok xi =>
                  rw [hFy] at hx
                  obtain ⟨rfl, ka, kc2, hq, hits⟩ := hx
                  have HALS := Lib.hid (allE_snoc HALE.out hFy)
                  obtain ⟨kl, hkl⟩ : ∃ n, xi.kids.length = n := ⟨_, rfl⟩
                  rw [hkl] at hits hq
                  have HQ6 := Lib.hid hq
                  have HIT6 := Lib.hid hits
                  clear hFy hits hq
                  have g0 : wx.cell? ⟨pb, 0, none⟩ = some (.int .i64 xi.kind) := HQ6.out.c 0 _ rfl
                  have g1 : wx.cell? ⟨pb, 1, none⟩ = some (.string ⟨xi.name.toArray⟩) := HQ6.out.c 1 _ rfl
                  have g2 : wx.cell? ⟨pb, 2, none⟩ = some (.int .i64 xi.num) := HQ6.out.c 2 _ rfl
                  have g3 : wx.cell? ⟨pb, 3, none⟩ = some (.int .i64 xi.slot) := HQ6.out.c 3 _ rfl
                  have g4 : wx.cell? ⟨pb, 4, none⟩ = some (.int .i64 xi.width) := HQ6.out.c 4 _ rfl
                  have g5 : wx.cell? ⟨pb, 5, none⟩ = some (.slice ka kl kc2) := HQ6.out.c 5 _ rfl
                  have n5 : wx.cell? ⟨nb, 5, none⟩ = some kv := HIx.out.out.c 5 _ rfl
                  obtain ⟨ya, yc, rfl⟩ : ∃ ya yc, kv = .slice ya k yc := by
                    obtain ⟨a, c, e, -, -⟩ := HIx.out.row.its.form
                    exact ⟨a, c, by rw [e, HRL.out]⟩
                  obtain ⟨W7, hal7⟩ : ∃ W, wx.alloc (.cells #[.int .i64 xi.kind, .string ⟨xi.name.toArray⟩, .int .i64 xi.num, .int .i64 xi.slot, .int .i64 xi.width, .slice ka kl kc2] RIT) = W := ⟨_, rfl⟩
                  have b7 : Below wx.heap.size wx W7 := by rw [← hal7]; exact alloc_bel wx _
                  have HI7 := Lib.hid (HIx.out.bl b7)
                  have HIT7 := Lib.hid (HIT6.out.bel b7)
                  obtain ⟨vl, hvl, hrow, hsub⟩ := HI7.out.row
                  have hvll : vl.length = k := by have h := congrArg List.length hvl; rw [List.length_map, HRL.out] at h; exact h
                  rw [hvll] at hrow
                  obtain ⟨i0, hi0, hz0, hz1, hz2⟩ := info_parts (show (Try.prog.info? RIT).map (fun i => (i.zero, i.size, i.bytes)) = some (some (.agg #[.int .i64 0, .string ⟨#[]⟩, .int .i64 0, .int .i64 0, .int .i64 0, .slice none 0 0]), 6, 72) by kernel_rfl)
                  have hcl := cells6 wx RIT (.int .i64 xi.kind) (.string ⟨xi.name.toArray⟩) (.int .i64 xi.num) (.int .i64 xi.slot) (.int .i64 xi.width) (.slice ka kl kc2)
                  rw [hal7] at hcl
                  obtain ⟨gq, capq, w8, hrun, hown8, hg8, hat8, hlt8⟩ := run_append_lies (P := Try.prog) (w := W7) 57 57 Bn RIT i0 (.agg #[.int .i64 0, .string ⟨#[]⟩, .int .i64 0, .int .i64 0, .int .i64 0, .slice none 0 0]) 6 72 (by kernel_rfl) hi0 hz0 hz1 hz2 rfl (by decide) (.slice ya k yc) k (flatI vl) hrow ⟨wx.heap.size, 0, none⟩ 1 1
                    [.int .i64 xi.kind, .string ⟨xi.name.toArray⟩, .int .i64 xi.num, .int .i64 xi.slot, .int .i64 xi.width, .slice ka kl kc2] rfl hcl (fun u hu => by simp at hu; rcases hu with rfl | rfl | rfl | rfl | rfl | rfl <;> rfl) (by decide) (by unfold maxLen; omega) (by omega) HI7.out.big W7.heap.size rfl
                  have hown5 : ∀ b, (Value.slice ya k yc).ownBlock = some b → Bn ≤ b ∧ b < wr.heap.size := fun b hb => HIr.out.row.lt b hb
                  have hbnr := HIr.out.big
                  have hm7 : ∀ b, wr.heap.size ≤ b → (Bn ≤ b ∧ (Value.slice ya k yc).ownBlock ≠ some b) := fun b hb => ⟨by omega, fun h => by have := hown5 b h; omega⟩
                  have hsn := ownI_snoc (n := k) (S := fun b => Bn ≤ b) (x := xi) (kv := .slice ka kl kc2) hvll.symm hg8.size hsub (HIT7.out.mono (fun b hb _ => hm7 b hb)) hown8 hg8 hat8
                  rw [hvl] at hsn
                  have hI7 := HI7.out
                  have hnbs := HNB.out
                  have hro : ∀ {T : Nat} {kk : Nat} {cs : Array Value}, Blk T kk cs W7 → kk < Bn → Blk T kk cs w8 := fun {T kk cs} h hlt => (hg8.block kk h.lt (fun e => by have := hown5 kk e.symm; omega)).trans h
                  have hbel8 : Below w.heap.size w w8 := hI7.bel.grown hg8 hI7.bel.size (fun b hb => by have := hown5 b hb; omega)
                  have hl8 := hro hI7.lk (by omega)
                  have hk8 := hro hI7.ob_ (by omega)
                  have hs8 := hro hI7.res (by omega)
                  have ho8 := hro hI7.out (by omega)
                  have hbig8 : Bn ≤ w8.heap.size := Nat.le_trans hI7.big hg8.size
                  have HRUN := Lib.hid hrun
                  have z5 : w8.cell? ⟨nb, 5, none⟩ = some (.slice ya k yc) := ho8.c 5 _ rfl
                  have zf : w8.frozen? ⟨nb, 5, none⟩ = false := ho8.fz 5
                  obtain ⟨w9, hw9⟩ : ∃ W, w8.setCell ⟨nb, 5, none⟩ (.slice (some ⟨gq, 0, none⟩) (k + 1) capq) = W := ⟨_, rfl⟩
                  have HI9 : Hid (RfI w.heap.size ob rb nb Bn #[.int .i64 (N : Int), .slice (some ⟨g, oo, none⟩) m cap, .int .u32 (last : Int), .slice (some ⟨gb, off, none⟩) rn rc] #[.int .i64 (at_ : Int), .int .u64 (kc : Int), .int .i64 (kk : Int), .int .i64 (kz : Int), .int .u32 (kh : Int), .bool km, .slice (some ⟨wb, wo, none⟩) wn wc, .slice ba bn bc] (.slice (some ⟨gq, 0, none⟩) (k + 1) capq) (r ++ [xi]) w w9) := Lib.hid (by
                    rw [← hw9]
                    refine ⟨hbel8.setCell (by show w.heap.size ≤ nb; omega) _, hl8.far (p := ⟨nb, 5, none⟩) (by show w.heap.size ≠ nb; omega) _, hk8.far (p := ⟨nb, 5, none⟩) (by show ob ≠ nb; omega) _, hs8.far (p := ⟨nb, 5, none⟩) (by show rb ≠ nb; omega) _, ho8.set_ 5 _ _ rfl, ?_, by simpa [World.setCell] using hbig8⟩
                    refine hsn.kp (by simp [World.setCell]) (fun b hb hx => Below.heap_setCell w8 ⟨nb, 5, none⟩ _ b (fun e => ?_))
                    have e : b = nb := e
                    rcases hx with hx | hx
                    · omega
                    · have := (hsn.lt b hx).1; omega)
                  clear hcl b7 hrow hsub hvl hvll hown8 hg8 hat8 hlt8 hown5 hm7 hsn hI7 hnbs hro hbel8 hl8 hk8 hs8 ho8 hbig8 hrun hz0 hz1 hz2 hi0 hbnr
                  go_wp2_with (at_builtin; refine wpList_app rfl _ _ _ rfl _ _ _ _ rfl rfl HRUN.out ?_)
                  exact ⟨⟨k + 1, by simp, by omega, Lib.hid ⟨_, _, HI9.out, by rw [List.length_append, HRL.out]; rfl, by rw [take_sn HY.out]; exact HALS.out⟩⟩, by simp only [intOf]; omega⟩
            · obtain rfl : k = wn := by omega
              have hkd : decide ((k : Int) < (k : Int)) = false := by simp
              obtain ⟨ya, yc, rfl⟩ : ∃ ya yc, kv = .slice ya k yc := by
                obtain ⟨a, c, e, -, -⟩ := HIr.out.row.its.form
                exact ⟨a, c, by rw [e, HRL.out]⟩
              have HRH : Hid (R = .ok (itm 4 0 [] r)) := Lib.hid (by
                have h := HALE.out
                rw [List.take_of_length_le (by rw [HWN.out]; exact Nat.le_refl _)] at h
                rw [HRG.out, h]; rfl)
              have HQr := Lib.hid HIr.out.res
              have HBr := Lib.hid HIr.out.bel
              have n0 : wr.cell? ⟨nb, 0, none⟩ = some (.int .i64 4) := HIr.out.out.c 0 _ rfl
              have n1 : wr.cell? ⟨nb, 1, none⟩ = some (.string ⟨#[]⟩) := HIr.out.out.c 1 _ rfl
              have n2 : wr.cell? ⟨nb, 2, none⟩ = some (.int .i64 0) := HIr.out.out.c 2 _ rfl
              have n3 : wr.cell? ⟨nb, 3, none⟩ = some (.int .i64 0) := HIr.out.out.c 3 _ rfl
              have n4 : wr.cell? ⟨nb, 4, none⟩ = some (.int .i64 0) := HIr.out.out.c 4 _ rfl
              have n5 : wr.cell? ⟨nb, 5, none⟩ = some (.slice ya k yc) := HIr.out.out.c 5 _ rfl
              have HITS : Hid (∀ Wf, Kp (fun b => Bn ≤ b) wr Wf → Its (fun b => w.heap.size ≤ b) Wf (.slice ya k yc) r) := Lib.hid (fun Wf hkp => by
                have hlt := HIr.out.row.lt
                have hnbs := HNB.out
                have h1 := HIr.out.row.its.mono (S' := fun b => Bn ≤ b) (fun b hb _ => by
                  rcases hb with hb | hb
                  · exact hb
                  · exact (hlt b hb).1)
                exact (h1.kp hkp).mono (fun b hb _ => by have hb : Bn ≤ b := hb; omega))
              clear hkz
              have g0_ := HQr.out.c 0 _ rfl
              have g1_ := HQr.out.c 1 _ rfl
              have g2_ := HQr.out.c 2 _ rfl
              have g3_ := HQr.out.c 3 _ rfl
              have g4_ := HQr.out.c 4 _ rfl
              have g5_ := HQr.out.c 5 _ rfl
              have fz_ := HQr.out.fz
              go_wp2_with fail
              obtain ⟨Wf, hWf⟩ : ∃ W, (((((wr.setCell ⟨rb, 0, none⟩ (.int .i64 4)).setCell ⟨rb, 1, none⟩ (.string ⟨#[]⟩)).setCell ⟨rb, 2, none⟩ (.int .i64 0)).setCell ⟨rb, 3, none⟩ (.int .i64 0)).setCell ⟨rb, 4, none⟩ (.int .i64 0)).setCell ⟨rb, 5, none⟩ (.slice ya k yc) = W := ⟨_, rfl⟩
              rw [hWf]
              have q_ : Blk RIT rb #[.int .i64 4, .string ⟨#[]⟩, .int .i64 0, .int .i64 0, .int .i64 0, .slice ya k yc] Wf := by rw [← hWf]; exact blk_set6 HQr.out _ _ _ _ _ _
              have hbf_ : Below w.heap.size w Wf := by rw [← hWf]; exact bel_set6 HBr.out HRB.out _ _ _ _ _ _
              have r0_ := q_.c 0 _ rfl
              have r1_ := q_.c 1 _ rfl
              have r2_ := q_.c 2 _ rfl
              have r3_ := q_.c 3 _ rfl
              have r4_ := q_.c 4 _ rfl
              have r5_ := q_.c 5 _ rfl
              refine bodyPost_ret (v := .tuple #[.agg #[.int .i64 4, .string ⟨#[]⟩, .int .i64 0, .int .i64 0, .int .i64 0, .slice ya k yc], .int .i64 0]) (by simp [results, Try.results13, go_sem, r0_, r1_, r2_, r3_, r4_, r5_]) rfl ?_
              exact by rw [HRH.out]; exact ⟨hbf_, ya, yc, by rw [← HRL.out]; rfl, by rw [show (itm 4 0 [] r).kids.length = k from HRL.out]; exact HITS.out Wf (by rw [← hWf]; exact kp_set6 (by have := HNB.out; show ¬ (Bn ≤ rb); omega) _ _ _ _ _ _)⟩
        have hbq4 : ((kc : Int) == (v14 : Int)) = false := by simp; omega
        replace HRF := Lib.hid (HRF.out.trans (if_neg h14))
        clear h14
        have r3 : ∀ v, Below w.heap.size w v → v.cell? ⟨gb, off + 3, none⟩ = some (.int .u64 (RW.getD 3 0 : Int)) := fun v hv => HRT.out 3 (by omega) v hv
        obtain ⟨p3, hp3⟩ : ∃ p, off + 3 = p := ⟨_, rfl⟩
        rw [hp3] at r3
        obtain ⟨gg, hgg⟩ : ∃ v, RW.getD 3 0 = v := ⟨_, rfl⟩
        rw [hgg] at r3 HWD HRF
        have hwo : wordsO l gg = og.words := by
          obtain ⟨o2, k1, k2, k3⟩ := idx_some HC.out.hk
          rw [HC.out.ho] at k1
          obtain rfl := Option.some.inj k1
          rw [← hgg]
          exact wds_of k3
        rw [hwo] at HRF
        have HGG := Lib.hid hgg
        have HWO16 := Lib.hid HC.out.w16
        have HSX := Lib.hid HC.out.hsy
        have HS5 := Lib.hid (show ∀ v, Below W5.heap.size W5 v → (v.cell? ⟨w.heap.size, 0, none⟩ = some (.int .i64 (N : Int)) ∧ v.cell? ⟨w.heap.size, 1, none⟩ = some (.slice (some ⟨g, oo, none⟩) m cap) ∧ v.cell? ⟨w.heap.size, 2, none⟩ = some (.int .u32 (last : Int)) ∧ v.cell? ⟨w.heap.size, 3, none⟩ = some (.slice (some ⟨gb, off, none⟩) rn rc) ∧ v.cell? ⟨gb, p3, none⟩ = some (.int .u64 (gg : Int))) from fun v hv => by
          have q := HK5.out.below hv HK5.out.lt
          exact ⟨q.c 0 _ rfl, q.c 1 _ rfl, q.c 2 _ rfl, q.c 3 _ rfl, r3 v (HB5.out.trans (hv.mono HB5.out.size))⟩)
        have i3 : (3 : Int) < (rn : Int) := by omega
        have hbq4 : ((kc : Int) == (v14 : Int)) = false := hbq4
        clear r3 hgg hwo HRDX HRN HRR HNO HFD HFr
        go_upto_region 29 with fail
        clear l0 l1 l2 l3 d1 d6 r12 r13 r14
        obtain ⟨V0, hV0⟩ : ∃ V, W5.drew = V := ⟨_, rfl⟩
        have hbd : Below W5.heap.size W5 V0 := by rw [← hV0]; exact below_drewN W5 1
        refine wp_region_noPanic ?_
        refine Hd.start (fun v => v.cell? ⟨w.heap.size, 0, none⟩ = some (.int .i64 (N : Int)) ∧ v.cell? ⟨w.heap.size, 1, none⟩ = some (.slice (some ⟨g, oo, none⟩) m cap) ∧ v.cell? ⟨w.heap.size, 2, none⟩ = some (.int .u32 (last : Int)) ∧ v.cell? ⟨w.heap.size, 3, none⟩ = some (.slice (some ⟨gb, off, none⟩) rn rc) ∧ v.cell? ⟨gb, p3, none⟩ = some (.int .u64 (gg : Int))) (by kernel_rfl) (HS5.out _ (below_drewN W5 1)) (fun hH0 => ?_)
        rw [hV0]
        rw [hV0] at hH0
        have HBD := Lib.hid hbd
        clear hV0 hbd
        refine Hd.tk 0 5 hH0 ?_
        refine Hd.tk 1 2 hH0 ?_
        refine Hd.tk 2 3 hH0 ?_
        refine Hd.tk 3 4 hH0 ?_
        refine Hd.tk 4 5 hH0 ?_
        refine Hd.on 5 (fun K hK => ?_)
        go_simp
        refine (HWD.out V0 (HL5.out.bel HBD.out)).mono ?_; rintro e w6 ⟨wv6, rfl, hrw6, hb6⟩
        have hb56 : Below W5.heap.size W5 w6 := HBD.out.trans (hb6.mono HBD.out.size)
        have HB56 := Lib.hid hb56
        obtain ⟨wa6, wc6, rfl, -, -⟩ := hrw6.form
        obtain ⟨ws, hws⟩ : ∃ z, og.words = z := ⟨_, rfl⟩
        rw [hws] at hrw6 HSX HWO16 HRF ⊢
        obtain ⟨n, hn⟩ : ∃ z, ws.length = z := ⟨_, rfl⟩
        rw [hn] at hrw6 HWO16 ⊢
        have HWS := Lib.hid hrw6
        have HN := Lib.hid hn
        have HWW := Lib.hid hws
        have hn16 : (n : Int) ≤ 16777216 := by have := HWO16.out; omega
        have HS6 := HS5.out w6 hb56
        clear hrw6 hb6 hb56 hn hws
        refine hK.out _ _ HS6 (fun hH1 => ?_)
        clear hK K
        try simp only [Act.put, List.setIfInBounds_toArray, List.set_cons_zero, List.set_cons_succ]
        refine Hd.la 6 (fun K hK => ?_)
        go_simp
        refine hK.out _ _ ?_
        clear hK K
        try simp only [Act.put, List.setIfInBounds_toArray, List.set_cons_zero, List.set_cons_succ]
        simp only [NoPanic]
        clear hH0 hH1 HS6
        go_wp2_with fail
        go_loopw [16, 17, 18] (fun y _ _ wr => ∃ j : Nat, y = .int .i64 ((2 * j : Nat) : Int) ∧ 2 * j ≤ n + 1 ∧ Hid (Below w6.heap.size w6 wr ∧ pairR l x (ws.drop (2 * j)) = pairR l x ws)) (fun y _ _ _ => n + 2 - (intOf y).toNat)
        case atStart => exact ⟨0, rfl, by omega, Lib.hid ⟨Below.refl _ _, rfl⟩⟩
        case round =>
          obtain ⟨j, rfl, hj, hI⟩ := hrel
          have hjw : IntKind.i64.wrap (((2 * j : Nat) : Int) + 1) = ((2 * j : Nat) : Int) + 1 := IntWalk.i64_in _ (by omega)
          have hjw2 : IntKind.i64.wrap (((2 * j : Nat) : Int) + 2) = ((2 * j : Nat) : Int) + 2 := IntWalk.i64_in _ (by omega)
          have HB5r := Lib.hid (HB56.out.trans (hI.out.1.mono HB56.out.size))
          have HBr := Lib.hid (HB5.out.trans (HB5r.out.mono HB5.out.size))
          have HQr := Lib.hid (HQ5.out.below HB5r.out HQ5.out.lt)
          by_cases hjn : 2 * j + 1 < n
          · obtain ⟨x', hx'⟩ : ∃ z, ws[2 * j]? = some z := ⟨_, List.getElem?_eq_getElem (by rw [HN.out]; omega)⟩
            obtain ⟨y', hy'⟩ : ∃ z, ws[2 * j + 1]? = some z := ⟨_, List.getElem?_eq_getElem (by rw [HN.out]; omega)⟩
            obtain ⟨hxl, kx2, ox, hkx, hox⟩ := HSX.out j x' hx'
            have hrr := HWS.out.below hI.out.1
            obtain ⟨wb, wo, x2, hwa, hx2, hwbl, hcx⟩ := hrr.at_ (2 * j) (by omega)
            obtain rfl : x2 = x' := by rw [hx'] at hx2; exact (Option.some.inj hx2).symm
            obtain ⟨wb2, wo2, y2, hwa2, hy2, -, hcy⟩ := hrr.at_ (2 * j + 1) (by omega)
            obtain rfl : y2 = y' := by rw [hy'] at hy2; exact (Option.some.inj hy2).symm
            subst hwa
            cases hwa2
            unfold uV at hcx hcy
            obtain ⟨pj, hpj⟩ : ∃ p, wo + 2 * j = p := ⟨_, rfl⟩
            obtain ⟨pk, hpk⟩ : ∃ p, wo + (2 * j + 1) = p := ⟨_, rfl⟩
            rw [hpj] at hcx
            rw [hpk] at hcy
            have HPR := Lib.hid (pairR_skip l x (j := j) hx' hy')
            have hbo : bytesO l x2 = ox.bytes := by
              obtain ⟨o2, k1, k2, k3⟩ := idx_some hkx
              rw [hox] at k1
              obtain rfl := Option.some.inj k1
              unfold bytesO
              rw [k3]; rfl
            rw [hbo] at HPR
            have HS3 := Lib.hid (show ∀ v, Below wr.heap.size wr v → (v.cell? ⟨w.heap.size, 0, none⟩ = some (.int .i64 (N : Int)) ∧ v.cell? ⟨w.heap.size, 1, none⟩ = some (.slice (some ⟨g, oo, none⟩) m cap) ∧ v.cell? ⟨w.heap.size, 2, none⟩ = some (.int .u32 (last : Int)) ∧ v.cell? ⟨w.heap.size, 3, none⟩ = some (.slice (some ⟨gb, off, none⟩) rn rc) ∧ v.cell? ⟨wb, pj, none⟩ = some (.int .u64 (x2 : Int))) from fun v hb => by
              have h1 := HS5.out v (HB5r.out.trans (hb.mono HB5r.out.size))
              exact ⟨h1.1, h1.2.1, h1.2.2.1, h1.2.2.2.1, (World.cell?_of_block (a := ⟨wb, pj, none⟩) (hb.block wb hwbl)).trans hcx⟩)
            have HCALL := Lib.hid (HSY.out wr.drew x2 kx2 ox ((HL5.out.bel HB5r.out).bel (below_drewN wr 1)) ((HR5.out.below HB5r.out).below (below_drewN wr 1)) hxl hkx hox)
            obtain ⟨TB, hTB⟩ : ∃ z, ox.bytes = z := ⟨_, rfl⟩
            rw [hTB] at HCALL HPR
            obtain ⟨IS, hIS⟩ : ∃ z, (decide (ox.hd.cls = v13) && decide (ox.hd.kind = 2)) = z := ⟨_, rfl⟩
            rw [hIS] at HCALL
            obtain ⟨jj, hjj⟩ : ∃ i : Nat, 2 * j = i := ⟨_, rfl⟩
            have hjj2 : 2 * (j + 1) = jj + 2 := by omega
            have HI := Lib.hid hI.out
            have HJJ := Lib.hid hjj
            have hj1 : (jj : Int) + 1 < (n : Int) := by omega
            have hj0 : (jj : Int) < (n : Int) := by omega
            have hpj2 : wo + jj = pj := by omega
            have hpk2 : wo + (jj + 1) = pk := by omega
            rw [hjj] at hjw hjw2 ⊢
            clear hx' hy' hxl hkx hox hrr hx2 hy2 hwbl hcx hpj hpk hbo hTB hIS hI hjj
            by_cases hyx : y2 = x
            · have hyb : ((y2 : Int) == (x : Int)) = true := by simp [hyx]
              have HRG : Hid (R = .ok (itm 9 0 TB [])) := Lib.hid (by rw [HRF.out, ← HI.out.2, HPR.out, if_pos hyx]; rfl)
              clear hyx
              go_upto_region 34 with fail
              refine wp_region_noPanic ?_
              refine Hd.start (fun v => v.cell? ⟨w.heap.size, 0, none⟩ = some (.int .i64 (N : Int)) ∧ v.cell? ⟨w.heap.size, 1, none⟩ = some (.slice (some ⟨g, oo, none⟩) m cap) ∧ v.cell? ⟨w.heap.size, 2, none⟩ = some (.int .u32 (last : Int)) ∧ v.cell? ⟨w.heap.size, 3, none⟩ = some (.slice (some ⟨gb, off, none⟩) rn rc) ∧ v.cell? ⟨wb, pj, none⟩ = some (.int .u64 (x2 : Int))) (by kernel_rfl) (HS3.out _ (below_drewN wr 1)) (fun hH0 => ?_)
              refine Hd.tk 0 5 hH0 ?_
              refine Hd.tk 1 3 hH0 ?_
              refine Hd.tk 2 3 hH0 ?_
              refine Hd.tk 3 4 hH0 ?_
              refine Hd.tk 4 5 hH0 ?_
              refine Hd.on 5 (fun K hK => ?_)
              go_simp
              refine HCALL.out.mono ?_; rintro e w7 ⟨ta, tc, rfl, hrb7, hb7⟩
              have hbr7 := (below_drewN wr 1).trans (hb7.mono (below_drewN wr 1).size)
              have HS7 := HS3.out w7 hbr7
              have hcv : (convert 48 9 (.slice ta TB.length tc)).run Try.prog w7 = .ok (.string ⟨TB.toArray⟩) w7 := rd_text _ _ 5 (by kernel_rfl) (by kernel_rfl) (by kernel_rfl) hrb7
              have HB7 := Lib.hid (HBr.out.trans (hbr7.mono HBr.out.size))
              have HQ7 := Lib.hid (HQr.out.below hbr7 HQr.out.lt)
              obtain ⟨tn, htn⟩ : ∃ z, TB.length = z := ⟨_, rfl⟩
              rw [htn] at hcv ⊢
              clear hb7 hbr7 hrb7 htn
              refine hK.out _ _ HS7 (fun hH1 => ?_)
              clear hK K
              try simp only [Act.put, List.setIfInBounds_toArray, List.set_cons_zero, List.set_cons_succ]
              refine Hd.tk 6 7 hH1 ?_
              refine Hd.tk 7 9 hH1 ?_
              refine Hd.tk 8 10 hH1 ?_
              refine Hd.on 9 (fun K hK => ?_)
              go_simp
              refine hK.out _ _ HS7 (fun hH2 => ?_)
              clear hK K
              try simp only [Act.put, List.setIfInBounds_toArray, List.set_cons_zero, List.set_cons_succ]
              refine Hd.la 10 (fun K hK => ?_)
              go_simp
              refine hK.out _ _ ?_
              clear hK K
              try simp only [Act.put, List.setIfInBounds_toArray, List.set_cons_zero, List.set_cons_succ]
              simp only [NoPanic]
              clear hH0 hH1 hH2 HS7 hcy
              have g0_ := HQ7.out.c 0 _ rfl
              have g1_ := HQ7.out.c 1 _ rfl
              have g2_ := HQ7.out.c 2 _ rfl
              have g3_ := HQ7.out.c 3 _ rfl
              have g4_ := HQ7.out.c 4 _ rfl
              have g5_ := HQ7.out.c 5 _ rfl
              have fz_ := HQ7.out.fz
              go_wp2_with fail
              obtain ⟨Wf, hWf⟩ : ∃ W, (((((w7.setCell ⟨rb, 0, none⟩ (.int .i64 9)).setCell ⟨rb, 1, none⟩ (.string ⟨TB.toArray⟩)).setCell ⟨rb, 2, none⟩ (.int .i64 0)).setCell ⟨rb, 3, none⟩ (.int .i64 0)).setCell ⟨rb, 4, none⟩ (.int .i64 0)).setCell ⟨rb, 5, none⟩ (.slice none 0 0) = W := ⟨_, rfl⟩
              rw [hWf]
              have q_ : Blk RIT rb #[.int .i64 9, .string ⟨TB.toArray⟩, .int .i64 0, .int .i64 0, .int .i64 0, .slice none 0 0] Wf := by rw [← hWf]; exact blk_set6 HQ7.out _ _ _ _ _ _
              have hbf_ : Below w.heap.size w Wf := by rw [← hWf]; exact bel_set6 HB7.out HRB.out _ _ _ _ _ _
              have r0_ := q_.c 0 _ rfl
              have r1_ := q_.c 1 _ rfl
              have r2_ := q_.c 2 _ rfl
              have r3_ := q_.c 3 _ rfl
              have r4_ := q_.c 4 _ rfl
              have r5_ := q_.c 5 _ rfl
              refine bodyPost_ret (v := .tuple #[.agg #[.int .i64 9, .string ⟨TB.toArray⟩, .int .i64 0, .int .i64 0, .int .i64 0, .slice none 0 0], .int .i64 0]) (by simp [results, Try.results13, go_sem, r0_, r1_, r2_, r3_, r4_, r5_]) rfl ?_
              exact by rw [HRG.out]; exact ⟨hbf_, none, 0, rfl, Its.nil _ _⟩
            · have hyb : ((y2 : Int) == (x : Int)) = false := by simp; omega
              replace HPR := Lib.hid (HPR.out.trans (if_neg hyx))
              clear hyx
              go_wp2_with fail
              exact ⟨⟨j + 1, by rw [hjj2]; rfl, by omega, Lib.hid ⟨HI.out.1, HPR.out.symm.trans HI.out.2⟩⟩, by simp only [intOf]; omega⟩
          · have hd : decide (((2 * j : Nat) : Int) + 1 < (n : Int)) = false := by rw [decide_eq_false_iff_not]; omega
            have HRE := Lib.hid (pairR_end l x (ws := ws) (j := j) (by rw [HN.out]; omega))
            have HRG : Hid (R = .error 13) := Lib.hid (by rw [HRF.out, ← hI.out.2, HRE.out]; rfl)
            obtain ⟨jj, hjj⟩ : ∃ i : Nat, 2 * j = i := ⟨_, rfl⟩
            rw [hjj] at hjw hjw2 hd ⊢
            clear hI hj hjn hjj
            have g0_ := HQr.out.c 0 _ rfl
            have g1_ := HQr.out.c 1 _ rfl
            have g2_ := HQr.out.c 2 _ rfl
            have g3_ := HQr.out.c 3 _ rfl
            have g4_ := HQr.out.c 4 _ rfl
            have g5_ := HQr.out.c 5 _ rfl
            have fz_ := HQr.out.fz
            go_wp2_with fail
            obtain ⟨Wf, hWf⟩ : ∃ W, (((((wr.setCell ⟨rb, 0, none⟩ (.int .i64 0)).setCell ⟨rb, 1, none⟩ (.string ⟨#[]⟩)).setCell ⟨rb, 2, none⟩ (.int .i64 0)).setCell ⟨rb, 3, none⟩ (.int .i64 0)).setCell ⟨rb, 4, none⟩ (.int .i64 0)).setCell ⟨rb, 5, none⟩ (.slice none 0 0) = W := ⟨_, rfl⟩
            rw [hWf]
            have q_ : Blk RIT rb #[.int .i64 0, .string ⟨#[]⟩, .int .i64 0, .int .i64 0, .int .i64 0, .slice none 0 0] Wf := by rw [← hWf]; exact blk_set6 HQr.out _ _ _ _ _ _
            have hbf_ : Below w.heap.size w Wf := by rw [← hWf]; exact bel_set6 HBr.out HRB.out _ _ _ _ _ _
            have r0_ := q_.c 0 _ rfl
            have r1_ := q_.c 1 _ rfl
            have r2_ := q_.c 2 _ rfl
            have r3_ := q_.c 3 _ rfl
            have r4_ := q_.c 4 _ rfl
            have r5_ := q_.c 5 _ rfl
            refine bodyPost_ret (v := .tuple #[.agg #[.int .i64 0, .string ⟨#[]⟩, .int .i64 0, .int .i64 0, .int .i64 0, .slice none 0 0], .int .i64 13]) (by simp [results, Try.results13, go_sem, r0_, r1_, r2_, r3_, r4_, r5_]) rfl ?_
            exact by rw [HRG.out]; exact ⟨hbf_, by decide, rfl⟩
end Hp
end Go.Proofs.Ytojblndlchcjeaa
namespace Go.Proofs.Ytojblndlchcjeaa
open Go.RowKit
namespace Hp
open Bs Sm
theorem rread_all (S : Nat → Prop) (N last rn rc kg : Nat) (ra : Option Addr) (lv : Value) (RW : List Nat) (l : List Ob) (og : Ob) (C : RfC l RW kg og) : ∀ (f deep : Nat), deep + f = 41 → ∀ (x : Nat) (w : World), Obs S w lv l → Rd S uV w (.slice ra rn rc) RW → x < 18446744073709551616 →
    Calls Try.prog 13 #[lkV N lv last (.slice ra rn rc), .int .u64 (x : Int), .int .i64 (deep : Int)] w (RdR (readG ⟨l, RW⟩ 13 10 (clsRef ⟨l, RW⟩) (f + 1) x deep) w)
  | 0, deep, h, x, w, hl, hr, hx => rread_step S N last rn rc kg ra lv RW l og C 0 deep (by omega) (fun h2 => by omega) x w hl hr hx
  | f + 1, deep, h, x, w, hl, hr, hx => rread_step S N last rn rc kg ra lv RW l og C (f + 1) deep (by omega) (fun h2 x w hl hr hx => rread_all S N last rn rc kg ra lv RW l og C f (deep + 1) (by omega) x w hl hr hx) x w hl hr hx
end Hp
end Go.Proofs.Ytojblndlchcjeaa
