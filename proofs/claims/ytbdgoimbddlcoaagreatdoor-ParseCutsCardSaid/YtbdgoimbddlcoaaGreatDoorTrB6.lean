/- Package tree, the walk: texts and symbols, Keywords, some kinds of nodes (printed by gen_trb6.py, hdx.py). -/
import Derived.Test.YtbdgoimbddlcoaaGreatDoorTrB5
import Derived.Test.YtbdgoimbddlcoaaGreatDoorTrPg
import Derived.Test.YtbdgoimbddlcoaaGreatDoorLxSy
set_option linter.unusedVariables false
namespace Go.Proofs.YtbdgoimbddlcoaaGreatDoor
open Go.RowKit
namespace Tr
open Bs Sm
theorem esc_same (w : Bytes) : Lx.esc w = w.flatMap (fun c => if c = 39 then [39, 39] else [c]) := by
 induction w with
 | nil => rfl
 | cons c w ih =>
  rw [Lx.esc, List.flatMap_cons, ih]
  split <;> rfl
theorem quote_same (w : Bytes) : Lx.quoteL w = quoteT w := by unfold Lx.quoteL quoteT; rw [esc_same]
theorem sym_same (w : Bytes) (n : Int) : Lx.spelledL 5 w n = symT w := by rw [Lx.sp5, quote_same]; rfl
theorem text_same (w : Bytes) (n : Int) : Lx.spelledL 4 w n = quoteT w := by rw [Lx.sp4, quote_same]
theorem text_ok {w : Bytes} (h : w.length ≤ 4096) : Lx.spellB (quoteT w) 4 w 0 = true := by
 have := Lx.spell_ok ⟨4, w, 0, 0⟩ rfl (by
  have h1 := Lx.quote_tok w h
  have e : Lx.sp ⟨4, w, 0, 0⟩ = Lx.quoteL w := Lx.sp4 w 0
  rw [e]; exact h1)
 have e : Lx.sp ⟨4, w, 0, 0⟩ = quoteT w := text_same w 0
 rw [e] at this
 exact this
theorem sym_ok {w : Bytes} (h : w.length ≤ 64) : Lx.spellB (symT w) 5 w 0 = true := by
 have := Lx.spell_ok ⟨5, w, 0, 0⟩ rfl (by
  have h1 := Lx.hash_tok w h
  have e : Lx.sp ⟨5, w, 0, 0⟩ = _ := Lx.sp5 w 0
  rw [e]; exact h1)
 have e : Lx.sp ⟨5, w, 0, 0⟩ = symT w := sym_same w 0
 rw [e] at this
 exact this
theorem spelled_ok (k : Int) (s t : Bytes) (ht : Lx.spelledL k s 0 = t) (hk : k = 4 ∨ k = 5) (hs : s.length ≤ 1000000) (hok : Lx.spellB t k s 0 = true) (w : World) (h1 : Pow10 w) (h2 : MaxV w) (h3 : ErrVar w) :
  Calls Tryz.prog 138 #[.int .i64 k, .string ⟨s.toArray⟩] w (Back (.string ⟨t.toArray⟩) w) := by
 have HS := Lx.Spell_q (k := k) (wd := ⟨s.toArray⟩) (n := 0) (a := 0) (w := w) hk (by omega) (by omega) (by show s.length ≤ _; omega) h1 h2 h3
 have e : (⟨s.toArray⟩ : ByteArray).data.toList = s := rfl
 rw [e, ht, hok] at HS
 replace HS := Lib.hid HS
 clear ht hok h1 h2 h3 e
 go_enter Tryz.func138, Tryz.ntmps138
 go_wp2_with fail
 refine HS.out.mono ?_; rintro e w1 ⟨hb, he⟩
 rw [if_pos rfl] at he
 subst he
 go_wp2_with fail
 go_ret
 exact ⟨rfl, hb⟩
theorem spelled_text {s : Bytes} (hs : s.length ≤ 4096) (w : World) (h1 : Pow10 w) (h2 : MaxV w) (h3 : ErrVar w) : Calls Tryz.prog 138 #[.int .i64 4, .string ⟨s.toArray⟩] w (Back (.string ⟨(quoteT s).toArray⟩) w) :=
 spelled_ok 4 s _ (text_same s 0) (.inl rfl) (by omega) (text_ok hs) w h1 h2 h3
theorem spelled_sym {s : Bytes} (hs : s.length ≤ 64) (w : World) (h1 : Pow10 w) (h2 : MaxV w) (h3 : ErrVar w) : Calls Tryz.prog 138 #[.int .i64 5, .string ⟨s.toArray⟩] w (Back (.string ⟨(symT s).toArray⟩) w) :=
 spelled_ok 5 s _ (sym_same s 0) (.inr rfl) (by omega) (sym_ok hs) w h1 h2 h3
theorem plain_any (s : Bytes) (w : World) : Calls Tryz.prog 167 #[strV s] w (Back (.bool (plainS s)) w) := by
 have HA := Arity_at s w
 unfold plainS
 unfold strV at HA ⊢
 obtain ⟨n, hn⟩ : ∃ n, Lx.arityL s = n := ⟨_, rfl⟩
 rw [hn] at HA ⊢
 replace HA := Lib.hid HA
 clear hn
 by_cases hn0 : 0 ≤ n
 · have hd : decide (0 ≤ n) = true := decide_eq_true hn0
   rw [hd]
   go_enter Tryz.func167, Tryz.ntmps167
   go_wp2_with fail
   refine HA.out.mono ?_; rintro e w1 ⟨rfl, hb1⟩
   go_wp2_with fail
   all_goals go_ret
   all_goals refine ⟨?_, hb1⟩
   all_goals congr 2
   all_goals simp_all
 · have hd : decide (0 ≤ n) = false := decide_eq_false hn0
   rw [hd]
   go_enter Tryz.func167, Tryz.ntmps167
   go_wp2_with fail
   refine HA.out.mono ?_; rintro e w1 ⟨rfl, hb1⟩
   go_wp2_with fail
   all_goals go_ret
   all_goals exact ⟨by simp, hb1⟩
section
variable {B b : Nat} {x : Nd}
set_option maxRecDepth 100000 in
set_option maxHeartbeats 1000000 in
theorem node2 (hK : x.kind = 2) (hnl : x.name.length ≤ 4096) : NodeOk B b x := by
 intro acc kv nv w hI hB hE hk hn hlen
 have htx : (txt x).1 = quoteT x.name := by rw [txt_eq]; simp [nodeT, hK]
 rw [htx] at hlen ⊢
 obtain ⟨ka, kc, rfl, hkc, hkm⟩ := hk.form
 obtain ⟨na, nc, rfl, hnc, hnm2⟩ := hn.form
 unfold maxLen at hkm hnm2
 have HX := Lib.hid (alloc_bel w (.cells #[.int .i64 2, .string ⟨x.name.toArray⟩, .int .i64 x.num, .slice ka x.kids.length kc, .slice na x.names.length nc, .int .i64 x.at_] 79))
 have HBK := Lib.hid (Blk.made (T := 79) (cs := #[.int .i64 2, .string ⟨x.name.toArray⟩, .int .i64 x.num, .slice ka x.kids.length kc, .slice na x.names.length nc, .int .i64 x.at_]) w)
 have HST0 := Lib.hid (St.start hI hB)
 have HE := Lib.hid hE
 have HKT := Lib.hid hk
 have HNT := Lib.hid hn
 have HT := fun (w' : World) (h : Below B w w') => spelled_text hnl w' (hE.below h).pow (hE.below h).maxv (hE.below h).errv
 obtain ⟨S, hS⟩ : ∃ S, quoteT x.name = S := ⟨_, rfl⟩
 rw [hS] at HT hlen ⊢
 replace HT := Lib.hid HT
 unfold ndV
 rw [hK]
 clear hI hE hk hn htx hK hS
 go_enter Tryz.func84, Tryz.ntmps84
 go_wp2_with fail
 have HST1 := Lib.hid (HST0.out.go HX.out)
 refine (HT.out _ HST1.out.bel).mono ?_; rintro e w1 ⟨rfl, hb1⟩
 have HST2 := Lib.hid (HST1.out.go hb1)
 clear hb1
 go_wp2_with fail
 refine (put1 S HST2.out.isb hlen HST2.out.siz).mono ?_; rintro e w2 hW2
 obtain rfl := hW2.1
 have HST3 := Lib.hid (HST2.out.step hW2)
 clear hW2
 go_wp2_with fail
 go_end0
 exact HST3.out.done
set_option maxRecDepth 100000 in
set_option maxHeartbeats 1000000 in
theorem node3 (hK : x.kind = 3) (hnl : x.name.length ≤ 64) : NodeOk B b x := by
 intro acc kv nv w hI hB hE hk hn hlen
 have htx : (txt x).1 = symT x.name := by rw [txt_eq]; simp [nodeT, hK]
 rw [htx] at hlen ⊢
 obtain ⟨ka, kc, rfl, hkc, hkm⟩ := hk.form
 obtain ⟨na, nc, rfl, hnc, hnm2⟩ := hn.form
 unfold maxLen at hkm hnm2
 have HX := Lib.hid (alloc_bel w (.cells #[.int .i64 3, .string ⟨x.name.toArray⟩, .int .i64 x.num, .slice ka x.kids.length kc, .slice na x.names.length nc, .int .i64 x.at_] 79))
 have HBK := Lib.hid (Blk.made (T := 79) (cs := #[.int .i64 3, .string ⟨x.name.toArray⟩, .int .i64 x.num, .slice ka x.kids.length kc, .slice na x.names.length nc, .int .i64 x.at_]) w)
 have HST0 := Lib.hid (St.start hI hB)
 have HE := Lib.hid hE
 have HKT := Lib.hid hk
 have HNT := Lib.hid hn
 have HT := fun (w' : World) (h : Below B w w') => spelled_sym hnl w' (hE.below h).pow (hE.below h).maxv (hE.below h).errv
 obtain ⟨S, hS⟩ : ∃ S, symT x.name = S := ⟨_, rfl⟩
 rw [hS] at HT hlen ⊢
 replace HT := Lib.hid HT
 unfold ndV
 rw [hK]
 clear hI hE hk hn htx hK hS
 go_enter Tryz.func84, Tryz.ntmps84
 go_wp2_with fail
 have HST1 := Lib.hid (HST0.out.go HX.out)
 refine (HT.out _ HST1.out.bel).mono ?_; rintro e w1 ⟨rfl, hb1⟩
 have HST2 := Lib.hid (HST1.out.go hb1)
 clear hb1
 go_wp2_with fail
 refine (put1 S HST2.out.isb hlen HST2.out.siz).mono ?_; rintro e w2 hW2
 obtain rfl := hW2.1
 have HST3 := Lib.hid (HST2.out.step hW2)
 clear hW2
 go_wp2_with fail
 go_end0
 exact HST3.out.done
set_option maxRecDepth 100000 in
set_option maxHeartbeats 1000000 in
theorem node11 (hK : x.kind = 11)  : NodeOk B b x := by
 intro acc kv nv w hI hB hE hk hn hlen
 have htx : (txt x).1 = [] := by rw [txt_eq]; simp [nodeT, hK]
 rw [htx] at hlen ⊢
 obtain ⟨ka, kc, rfl, hkc, hkm⟩ := hk.form
 obtain ⟨na, nc, rfl, hnc, hnm2⟩ := hn.form
 unfold maxLen at hkm hnm2
 have HX := Lib.hid (alloc_bel w (.cells #[.int .i64 11, .string ⟨x.name.toArray⟩, .int .i64 x.num, .slice ka x.kids.length kc, .slice na x.names.length nc, .int .i64 x.at_] 79))
 have HBK := Lib.hid (Blk.made (T := 79) (cs := #[.int .i64 11, .string ⟨x.name.toArray⟩, .int .i64 x.num, .slice ka x.kids.length kc, .slice na x.names.length nc, .int .i64 x.at_]) w)
 have HST0 := Lib.hid (St.start hI hB)
 have HE := Lib.hid hE
 have HKT := Lib.hid hk
 have HNT := Lib.hid hn
 unfold ndV
 rw [hK]
 clear hI hE hk hn htx hK
 go_enter Tryz.func84, Tryz.ntmps84
 go_wp2_with fail
 have HST1 := Lib.hid (HST0.out.go HX.out)
 go_end0
 exact HST1.out.done' (by simp)
set_option maxRecDepth 100000 in
set_option maxHeartbeats 1000000 in
theorem node6 (hK : x.kind = 6) (hkl : x.kids.length = 1) (hN : NodeOk B b (kid x 0)) : NodeOk B b x := by
 intro acc kv nv w hI hB hE hk hn hlen
 have htx : (txt x).1 = x.name ++ ([32, 58, 61, 32] ++ (txt (kid x 0)).1) := by rw [txt_eq]; simp [nodeT, hK]
 rw [htx] at hlen ⊢
 obtain ⟨ka, kc, rfl, hkc, hkm⟩ := hk.form
 obtain ⟨na, nc, rfl, hnc, hnm2⟩ := hn.form
 unfold maxLen at hkm hnm2
 have HX := Lib.hid (alloc_bel w (.cells #[.int .i64 6, .string ⟨x.name.toArray⟩, .int .i64 x.num, .slice ka x.kids.length kc, .slice na x.names.length nc, .int .i64 x.at_] 79))
 have HBK := Lib.hid (Blk.made (T := 79) (cs := #[.int .i64 6, .string ⟨x.name.toArray⟩, .int .i64 x.num, .slice ka x.kids.length kc, .slice na x.names.length nc, .int .i64 x.at_]) w)
 have HST0 := Lib.hid (St.start hI hB)
 have HE := Lib.hid hE
 have HKT := Lib.hid hk
 have HNT := Lib.hid hn
 rw [hkl] at hk HBK HX hkc
 obtain ⟨gb, off, y, ya, yc, za, zc, rfl, hy, hgb, hgB, hrow, hyk, hyn2⟩ := hk.nth 0 (by omega)
 have hkid : kid x 0 = y := by unfold kid; rw [List.getD_eq_getElem?_getD, hy]; rfl
 rw [hkid] at hN hlen ⊢
 have HL := fun (acc2 : Bytes) (w' : World) (h : St B b acc2 w w') (hl : acc2.length + (txt y).1.length ≤ 140737488355328) => hN acc2 _ _ w' h.isb h.siz (h.env hE) (h.tree hyk) (h.rd hyn2) hl
 unfold ndV at HL ⊢
 rw [hK, hkl]
 replace HL := Lib.hid HL
 have HROW := Lib.hid hrow
 obtain ⟨T, hT⟩ : ∃ T, (txt y).1 = T := ⟨_, rfl⟩
 rw [hT] at HL hlen ⊢
 simp only [List.length_append, List.length_cons, List.length_nil] at hlen
 have n1 : gb < w.heap.size := hgb
 clear hI hE hk hn htx hK hkl hN hkid hy hT hyk hyn2 hrow
 go_enter Tryz.func84, Tryz.ntmps84
 go_wp2_with fail
 have HST1 := Lib.hid (HST0.out.go HX.out)
 refine (put2k _ x.name [32, 58, 61, 32] HST1.out.isb (by simp; omega) HST1.out.siz (by simp)).mono ?_; rintro e w2 hW2
 obtain rfl := hW2.1
 have HST2 := Lib.hid (HST1.out.step hW2)
 have hkb := isb_blk HST1.out.isb HBK.out (by decide)
 have hk2 := hW2.2.2.2.blk HBK.out hkb (by decide)
 have c3 := hk2.c 3 _ rfl
 obtain ⟨q0, q1, q2, q3, q4, q5⟩ := HROW.out.kp (w' := w2) (fun i => HST2.out.bel.cell (p := ⟨gb, i, none⟩) hgB)
 simp only [Nat.zero_mul, Nat.add_zero] at q0 q1 q2 q3 q4 q5
 clear hW2 hk2
 go_wp2_with fail
 refine (HL.out _ _ HST2.out (by simp; omega)).mono ?_; rintro e w3 hW3
 obtain rfl := hW3.1
 have HST3 := Lib.hid (HST2.out.step hW3)
 clear hW3 c3 q0 q1 q2 q3 q4 q5
 go_wp2_with fail
 go_end0
 exact HST3.out.done' (by simp)
/-- What the function that writes a message's argument looks at. -/
structure KwAt (B b k1 k2 : Nat) (x : Nd) (ka na : Option Addr) (kc nc : Nat) (w : World) : Prop where
 p1 : Blk 132 k1 #[.pointer (some ⟨b, 0, none⟩)] w
 p2 : Blk 79 k2 #[.int .i64 x.kind, .string ⟨x.name.toArray⟩, .int .i64 x.num, .slice ka x.kids.length kc, .slice na x.names.length nc, .int .i64 x.at_] w
 n1 : k1 ≠ b
 n2 : k2 ≠ b
 env : Env B w
 kids : Tree (fun b => b < B) w (.slice ka x.kids.length kc) x.kids
theorem KwAt.keep {k1 k2 : Nat} {ka na : Option Addr} {kc nc : Nat} {w w' : World} (h : KwAt B b k1 k2 x ka na kc nc w) (hk : KeepT b U8 w w') (hb : Below B w w') : KwAt B b k1 k2 x ka na kc nc w' :=
 ⟨hk.blk h.p1 h.n1 (by decide), hk.blk h.p2 h.n2 (by decide), h.n1, h.n2, h.env.below hb, h.kids.kp (Kp.lt hb)⟩
theorem ent152 : Ent 191 := enters_of Tryz.func191 (by kernel_rfl) rfl
set_option maxRecDepth 100000 in
set_option maxHeartbeats 1600000 in
theorem behind_kw (k1 k2 : Nat) (ka na : Option Addr) (kc nc m : Nat) (hm : m + 1 ≤ x.kids.length) (hkl : x.kids.length ≤ 1000000) (hN : ∀ y ∈ x.kids, NodeOk B b y ∧ y.name.length ≤ 1000000) :
  Behind B b (KwAt B b k1 k2 x ka na kc nc) 191 #[.pointer (some ⟨k1, 0, none⟩), .pointer (some ⟨k2, 0, none⟩)] (fun i => leastT 2 (kid x (i + 1)) (txt (kid x (i + 1))).1) m 140737488355328 := by
 refine ⟨ent152, fun w w' h hk hb => h.keep hk hb, ?_⟩
 intro i acc w him hInv hI hB hlen
 obtain ⟨n, hn⟩ : ∃ n, x.kids.length = n := ⟨_, rfl⟩
 have hkt := hInv.kids
 have hp2 := hInv.p2
 rw [hn] at hkt hp2 hm hkl
 obtain ⟨-, hkc, hkm⟩ := hkt.len
 rw [hn] at hkc
 unfold maxLen at hkm
 obtain ⟨gb, off, y, ya, yc, za, zc, rfl, hy, hgb, hgB, hrow, hyk, hyn2⟩ := hkt.nth (i + 1) (by omega)
 have hkid : kid x (i + 1) = y := by unfold kid; rw [List.getD_eq_getElem?_getD, hy]; rfl
 obtain ⟨hNy, hnm⟩ := hN y (List.mem_of_getElem? hy)
 show Calls _ _ #[.int .i64 (i : Int), .pointer (some ⟨k1, 0, none⟩), .pointer (some ⟨k2, 0, none⟩)] w _
 simp only [hkid] at hlen ⊢
 have HL := fun (acc2 : Bytes) (w' : World) (h : St B b acc2 w w') (hl : acc2.length + (leastT 2 y (txt y).1).length ≤ 140737488355328) => least_any hNy hnm 2 h.isb h.siz (h.env hInv.env) (h.tree hyk) (h.rd hyn2) hl
 unfold ndV at HL
 replace HL := Lib.hid HL
 have HROW := Lib.hid hrow
 obtain ⟨T, hT⟩ : ∃ T, leastT 2 y (txt y).1 = T := ⟨_, rfl⟩
 rw [hT] at HL hlen ⊢
 have HLEN := Lib.hid hlen
 have HST0 := Lib.hid (St.start hI hB)
 have HP1 := Lib.hid hInv.p1
 have HP2 := Lib.hid hp2
 have hkw : IntKind.i64.wrap ((i : Int) + 1) = (i : Int) + 1 := IntWalk.i64_in _ (by omega)
 have hin : i + 1 < n := by omega
 clear hkt hyk hyn2 hNy hnm hrow hkid hy hT hlen hI hN hInv hp2 hn
 go_enter Tryz.func191, Tryz.ntmps191
 go_upto_region 0 with fail
 have hS : ∀ v, Below w.heap.size w v → (v.cell? ⟨k1, 0, none⟩ = some (.pointer (some ⟨b, 0, none⟩)) ∧ v.cell? ⟨k2, 3, none⟩ = some (.slice (some ⟨gb, off, none⟩) n kc) ∧ (v.cell? ⟨gb, off + (i + 1) * 6, none⟩ = some (.int .i64 y.kind) ∧ v.cell? ⟨gb, off + (i + 1) * 6 + 1, none⟩ = some (.string ⟨y.name.toArray⟩) ∧ v.cell? ⟨gb, off + (i + 1) * 6 + 2, none⟩ = some (.int .i64 y.num) ∧ v.cell? ⟨gb, off + (i + 1) * 6 + 3, none⟩ = some (.slice ya y.kids.length yc) ∧ v.cell? ⟨gb, off + (i + 1) * 6 + 4, none⟩ = some (.slice za y.names.length zc) ∧ v.cell? ⟨gb, off + (i + 1) * 6 + 5, none⟩ = some (.int .i64 y.at_))) := fun v hv => by
  have hbv := hv.mono hB
  exact ⟨(HP1.out.below hv HP1.out.lt).c 0 _ rfl, (HP2.out.below hv HP2.out.lt).c 3 _ rfl, HROW.out.kp (w' := v) (fun i => hbv.cell (p := ⟨gb, i, none⟩) hgB)⟩
 have HST1 := Lib.hid (HST0.out.go (Below.refl _ w).drew)
 have HLL := Lib.hid (HL.out _ _ HST1.out HLEN.out)
 have hci : 0 ≤ (i : Int) + 1 ∧ (i : Int) + 1 < (n : Int) := by omega
 have hc1 : (i + 1 : Nat) < n := hin
 refine wp_region_noPanic ?_
 refine Hd.start (fun v => v.cell? ⟨k1, 0, none⟩ = some (.pointer (some ⟨b, 0, none⟩)) ∧ v.cell? ⟨k2, 3, none⟩ = some (.slice (some ⟨gb, off, none⟩) n kc) ∧ (v.cell? ⟨gb, off + (i + 1) * 6, none⟩ = some (.int .i64 y.kind) ∧ v.cell? ⟨gb, off + (i + 1) * 6 + 1, none⟩ = some (.string ⟨y.name.toArray⟩) ∧ v.cell? ⟨gb, off + (i + 1) * 6 + 2, none⟩ = some (.int .i64 y.num) ∧ v.cell? ⟨gb, off + (i + 1) * 6 + 3, none⟩ = some (.slice ya y.kids.length yc) ∧ v.cell? ⟨gb, off + (i + 1) * 6 + 4, none⟩ = some (.slice za y.names.length zc) ∧ v.cell? ⟨gb, off + (i + 1) * 6 + 5, none⟩ = some (.int .i64 y.at_))) (by kernel_rfl) (hS _ (Below.refl _ w).drew) (fun hH0 => ?_)
 refine Hd.tk 0 7 hH0 ?_
 refine Hd.tk 1 2 hH0 ?_
 refine Hd.tk 2 5 hH0 ?_
 refine Hd.tk 3 4 hH0 ?_
 refine Hd.tk 4 5 hH0 ?_
 refine Hd.tk 5 6 hH0 ?_
 refine Hd.tk 6 7 hH0 ?_
 refine Hd.la 7 (fun K hK => ?_)
 go_simp
 refine HLL.out.mono ?_; rintro e w4 hW4
 obtain rfl := hW4.1
 have HST4 := Lib.hid (HST1.out.step hW4)
 clear hW4
 go_wp2_with fail
 refine hK.out _ _ ?_
 clear hK K
 try simp only [Act.put, Hd.sa, Hd.sz, Hd.ss]
 simp only [NoPanic]
 clear hS hH0
 go_wp2_with fail
 go_end0
 exact HST4.out.done
end
end Tr
end Go.Proofs.YtbdgoimbddlcoaaGreatDoor
