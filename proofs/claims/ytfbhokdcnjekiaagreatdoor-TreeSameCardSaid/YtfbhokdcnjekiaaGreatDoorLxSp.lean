/- Package lex, the walk: quote, spelled. · Package lex, the walk: quote, spelled, by kind (wip/gen/gen_spl.py prints this). · Package lex, the walk: spelled whole; Spell. -/
import Derived.Test.YtfbhokdcnjekiaaGreatDoorLxE3
import Derived.Test.YtfbhokdcnjekiaaGreatDoorLxE3
import Derived.Test.YtfbhokdcnjekiaaGreatDoorShelfR
import Derived.Maps.Own
import Derived.Maps.Views
import Derived.Maps.StringElems
set_option linter.unusedVariables false
namespace Go.Proofs.YtfbhokdcnjekiaaGreatDoor
open Go.RowKit Go.Maps
namespace Lx
theorem arity_same (w : Bytes) : arityL w = arityP w := rfl
def mapv (k : Int) : Bytes := if k = 7 then [58, 61] else if k = 15 then [35, 40] else if k = 16 then [58] else []
abbrev MT : Nat := 158
theorem arr (s : ByteArray) : (⟨s.data.toList.toArray⟩ : ByteArray) = s := rfl
theorem lawI : Keyed Tryz.prog IT := int_keyed Tryz.underlying3
theorem tMap : Tryz.prog.underlying MT = some (.map IT 9) := by kernel_rfl
theorem zeroS (w : World) : (zeroValue 9).run Tryz.prog w = .ok (.string ⟨#[]⟩) w := by kernel_rfl
def D3 : DataW Unit := (((DataW.map []).put (.int .i64 7) (.lit (.string [58, 61]))).put (.int .i64 15) (.lit (.string [35, 40]))).put (.int .i64 16) (.lit (.string [58]))
theorem D3_at (k : Int) (h : -9223372036854775808 ≤ k ∧ k ≤ 9223372036854775807) : D3.atKey (.int .i64 k) (.lit (.string [])) = .lit (.string (mapv k)) := by
 have key : ∀ a b : Int, a ≠ b → (Lit.int .i64 a) ≠ (Lit.int .i64 b) := fun a b hn e => hn (by injection e)
 have m0 : IsMap (DataW.map [] : DataW Unit) := isMap_empty
 unfold D3 mapv
 by_cases h7 : k = 7
 · subst h7
   rw [atKey_put_other (key _ _ (by decide)), atKey_put_other (key _ _ (by decide)), atKey_put_same m0 (show WideAt.IsKeyLit (.int .i64 7) from trivial), if_pos rfl]
 · rw [if_neg h7]
   by_cases h15 : k = 15
   · subst h15
     rw [atKey_put_other (key _ _ (by decide)), atKey_put_same (m0.put _ _) (show WideAt.IsKeyLit (.int .i64 15) from trivial), if_pos rfl]
   · rw [if_neg h15]
     by_cases h16 : k = 16
     · subst h16
       rw [atKey_put_same ((m0.put _ _).put _ _) (show WideAt.IsKeyLit (.int .i64 16) from trivial), if_pos rfl]
     · rw [if_neg h16, atKey_put_other (key _ _ h16), atKey_put_other (key _ _ h15), atKey_put_other (key _ _ h7)]
       rfl
set_option maxRecDepth 100000 in
theorem map_runs (W1 : World) (k : Int) (hk : -9223372036854775808 ≤ k ∧ k ≤ 9223372036854775807) : ∃ u1 u2 u3,
  (Instr.mapUpdate MT (.map (some W1.heap.size)) (.int .i64 7) (.string ⟨#[58, 61]⟩)).run Tryz.prog (W1.alloc (.map #[] 0)) = .ok () u1 ∧
  (Instr.mapUpdate MT (.map (some W1.heap.size)) (.int .i64 15) (.string ⟨#[35, 40]⟩)).run Tryz.prog u1 = .ok () u2 ∧
  (Instr.mapUpdate MT (.map (some W1.heap.size)) (.int .i64 16) (.string ⟨#[58]⟩)).run Tryz.prog u2 = .ok () u3 ∧
  (Instr.lookup MT (.map (some W1.heap.size)) (.int .i64 k) false).run Tryz.prog u3 = .ok (.string ⟨(mapv k).toArray⟩) u3 ∧ Below W1.heap.size W1 u3 := by
 have us := Tryz.underlying9
 have o0 := World.ownsMap_made W1 Tryz.prog IT (plainElem (H := Unit) Tryz.prog 9)
 have hv := fun (s : ByteArray) (h : s.size ≤ maxLen) => plainElem_string (H := Unit) us h
 obtain ⟨u1, r1, o1, g1⟩ := o0.update lawI tMap (by unfold maxLen; omega) (keyOf_int_mk Tryz.underlying3 (a := 7) (WalkArith.wf_i64 (by omega))) (hv ⟨#[58, 61]⟩ (by decide))
 obtain ⟨u2, r2, o2, g2⟩ := o1.update lawI tMap (by unfold maxLen; omega) (keyOf_int_mk Tryz.underlying3 (a := 15) (WalkArith.wf_i64 (by omega))) (hv ⟨#[35, 40]⟩ (by decide))
 obtain ⟨u3, r3, o3, g3⟩ := o2.update lawI tMap (by unfold maxLen; omega) (keyOf_int_mk Tryz.underlying3 (a := 16) (WalkArith.wf_i64 (by omega))) (hv ⟨#[58]⟩ (by decide))
 obtain ⟨v, ps, r4, hR⟩ := o3.lookup lawI tMap (zeroS u3) (hv ⟨#[]⟩ (by decide)) (keyOf_int_mk Tryz.underlying3 (WalkArith.wf_i64 hk))
 obtain ⟨s, rfl, hs, _⟩ := plainElem_string_inv us hR
 have hD : D3.atKey (.int .i64 k) (.lit (.string [])) = .lit (.string s.data.toList) := (Prod.mk.inj hs).1
 rw [D3_at k hk] at hD
 have hsm : mapv k = s.data.toList := by injection hD with h; injection h
 refine ⟨u1, u2, u3, r1, r2, r3, ?_, ?_⟩
 · have e : (⟨(mapv k).toArray⟩ : ByteArray) = s := by rw [hsm]
   rw [e]; exact r4
 · have b0 : Below W1.heap.size W1 (W1.alloc (.map #[] 0)) := (Below.refl _ _).alloc (Nat.le_refl _) _
   have hb : ∀ j : Nat, some W1.heap.size = some j → W1.heap.size ≤ j := fun j hj => by injection hj with hj; omega
   have b1 := b0.grown g1 b0.size hb
   have b2 := b1.grown g2 b1.size hb
   exact b2.grown g3 b2.size hb
end Lx
end Go.Proofs.YtfbhokdcnjekiaaGreatDoor
namespace Go.Proofs.YtfbhokdcnjekiaaGreatDoor
open Go.RowKit
namespace Lx
/-- The library's length limit can be read. -/
def MaxV (w : World) : Prop := ∃ m, w.cell? ⟨0, 0, none⟩ = some (.int .i64 m)
theorem MaxV.lt {w : World} (h : MaxV w) : 0 < w.heap.size := by
 obtain ⟨m, hm⟩ := h
 rcases Nat.lt_or_ge 0 w.heap.size with h | h
 · exact h
 · unfold World.cell? at hm; simp [Array.getElem?_eq_none h] at hm
theorem MaxV.below {w w' : World} (h : MaxV w) (hb : Below w.heap.size w w') : MaxV w' := by
 have hl := h.lt
 obtain ⟨m, hm⟩ := h
 exact ⟨m, (hb.cell (p := ⟨_, 0, none⟩) hl).trans hm⟩
def Pow10 (w : World) : Prop := Lib.TabIs Tryz.prog w "internal/strconv.uint64pow10" .u64 Lib.pow10Tab
theorem Pow10.below {w w' : World} (h : Pow10 w) (hb : Below w.heap.size w w') : Pow10 w' := by
 have hg : Tryz.prog.globalNamed "internal/strconv.uint64pow10" = some 1 := by kernel_rfl
 unfold Pow10 Lib.TabIs at *
 refine var?_below hb hg ?_ h
 rcases Nat.lt_or_ge 1 w.heap.size with hh | hh
 · exact hh
 · exfalso
   unfold World.var? at h
   simp only [hg, Option.bind_some, Array.getElem?_eq_none hh] at h
   cases h
theorem below_grows (w : World) (k : Nat) (os : Array Obj) : Below w.heap.size w (Sort.grow (w.drewN k) os) :=
 ⟨rfl, rfl, rfl, by show w.heap.size ≤ (w.heap ++ os).size; rw [Array.size_append]; omega, fun j hj => by
  show (w.heap ++ os)[j]? = w.heap[j]?
  exact Array.getElem?_append_left hj⟩
theorem text_num (n : Int) (h0 : -9223372036854775808 ≤ n) (h1 : n ≤ 9223372036854775807) (w : World) (ht : Pow10 w) :
  Calls Tryz.prog 43 #[.int .i64 n] w (Back (.string ⟨(Lib.itoa n).toArray⟩) w) := by
 go_enter Tryz.func43, Tryz.ntmps43
 go_wp2_with fail
 refine (Tryz.strconv_FormatInt_10 n h0 h1 w ht).mono ?_
 rintro e w' ⟨rfl, k, os, rfl⟩
 go_wp2_with fail
 go_ret
 exact ⟨rfl, below_grows _ _ _⟩
theorem cat3 (a b : UInt8) (l : List UInt8) : (⟨#[a]⟩ : ByteArray) ++ ⟨l.toArray⟩ ++ ⟨#[b]⟩ = ⟨(a :: (l ++ [b])).toArray⟩ := by
 apply ByteArray.ext; apply Array.toList_inj.1; simp [ByteArray.data_append]
theorem cat2 (a : UInt8) (s : ByteArray) : (⟨#[a]⟩ : ByteArray) ++ s = ⟨(a :: s.data.toList).toArray⟩ := by
 apply ByteArray.ext; apply Array.toList_inj.1; simp [ByteArray.data_append]
set_option maxHeartbeats 1600000 in
theorem quote_any (s : ByteArray) (w : World) (hs : s.size ≤ 1073741824) (hm : MaxV w) :
  Calls Tryz.prog 159 #[.string s] w (Back (.string ⟨(quoteL s.data.toList).toArray⟩) w) := by
 obtain ⟨m, hm⟩ := hm
 have hcnt : Lib.countB s ⟨#[39]⟩ ≤ s.size := by
  have h1 : Lib.countB s ⟨#[39]⟩ = s.data.toList.count 39 := by
   show Lib.count s.data.toList [39] = _; exact Lib.count_one 39 _
  rw [h1]; exact List.count_le_length
 have hr := Tryz.strings_ReplaceAll s ⟨#[39]⟩ ⟨#[39, 39]⟩ m w (by omega) hm (by decide) (by
  have : (⟨#[39, 39]⟩ : ByteArray).size = 2 := rfl
  rw [this]; omega)
 rw [show (⟨#[39]⟩ : ByteArray).data.toList = [39] from rfl, show (⟨#[39, 39]⟩ : ByteArray).data.toList = [39, 39] from rfl, replace_esc] at hr
 have hel := esc_len s.data.toList
 have hcl : s.data.toList.count 39 ≤ s.size := List.count_le_length
 have hsl : s.data.toList.length = s.size := rfl
 have hq : (quoteL s.data.toList) = 39 :: (esc s.data.toList ++ [39]) := rfl
 rw [hq]
 have hE : ((⟨(esc s.data.toList).toArray⟩ : ByteArray).size : Int) ≤ 2147483648 := by
  have : (⟨(esc s.data.toList).toArray⟩ : ByteArray).size = (esc s.data.toList).length := by simp [ByteArray.size]
  omega
 obtain ⟨E, hEE⟩ : ∃ E : ByteArray, (⟨(esc s.data.toList).toArray⟩ : ByteArray) = E := ⟨_, rfl⟩
 have hc3 := cat3 39 39 (esc s.data.toList)
 rw [hEE] at hr hE hc3
 obtain ⟨F, hF⟩ : ∃ F : ByteArray, (⟨(39 :: (esc s.data.toList ++ [39])).toArray⟩ : ByteArray) = F := ⟨_, rfl⟩
 rw [hF] at hc3 ⊢
 have HR := Lib.hid hr
 clear hr hm hcnt hel hcl hsl hq hEE hF
 go_enter Tryz.func159, Tryz.ntmps159
 go_wp2_with fail
 refine HR.out.mono ?_; rintro e w' ⟨rfl, hb⟩
 go_wp2_with fail
 go_ret
 exact ⟨rfl, hb⟩
variable {k n a : Int} {wd : ByteArray} {w : World}
set_option maxRecDepth 100000 in
set_option maxHeartbeats 1600000 in
theorem spelled_1 (h : k = 1) :
  Calls Tryz.prog 149 #[.agg #[.int .i64 k, .string wd, .int .i64 n, .int .i64 a]] w (Back (.string wd) w) := by
 subst h
 go_enter Tryz.func149, Tryz.ntmps149
 go_wp2_with fail
 go_ret
 exact ⟨rfl, (Below.refl _ _).alloc (Nat.le_refl _) _⟩
set_option maxRecDepth 100000 in
set_option maxHeartbeats 1600000 in
theorem spelled_2 (h : k = 2) :
  Calls Tryz.prog 149 #[.agg #[.int .i64 k, .string wd, .int .i64 n, .int .i64 a]] w (Back (.string wd) w) := by
 subst h
 go_enter Tryz.func149, Tryz.ntmps149
 go_wp2_with fail
 go_ret
 exact ⟨rfl, (Below.refl _ _).alloc (Nat.le_refl _) _⟩
set_option maxRecDepth 100000 in
set_option maxHeartbeats 1600000 in
theorem spelled_6 (h : k = 6) :
  Calls Tryz.prog 149 #[.agg #[.int .i64 k, .string wd, .int .i64 n, .int .i64 a]] w (Back (.string wd) w) := by
 subst h
 go_enter Tryz.func149, Tryz.ntmps149
 go_wp2_with fail
 go_ret
 exact ⟨rfl, (Below.refl _ _).alloc (Nat.le_refl _) _⟩
set_option maxRecDepth 100000 in
set_option maxHeartbeats 1600000 in
theorem spelled_3 (h : k = 3) (h0 : -9223372036854775808 ≤ n) (h1 : n ≤ 9223372036854775807) (ht : Pow10 w) :
  Calls Tryz.prog 149 #[.agg #[.int .i64 k, .string wd, .int .i64 n, .int .i64 a]] w (Back (.string ⟨(Lib.itoa n).toArray⟩) w) := by
 have HT := Lib.hid ht
 have HB : Below w.heap.size w (w.alloc (Obj.cells #[.int .i64 k, .string wd, .int .i64 n, .int .i64 a] TT)) := (Below.refl _ _).alloc (Nat.le_refl _) _
 subst h
 clear ht
 go_enter Tryz.func149, Tryz.ntmps149
 go_wp2_with fail
 refine (text_num n h0 h1 _ (HT.out.below HB)).mono ?_; rintro e w2 ⟨rfl, hb2⟩
 go_wp2_with fail
 go_ret
 exact ⟨rfl, HB.trans (hb2.mono HB.size)⟩
set_option maxRecDepth 100000 in
set_option maxHeartbeats 1600000 in
theorem spelled_4 (h : k = 4) (hs : wd.size ≤ 1073741824) (ht : MaxV w) :
  Calls Tryz.prog 149 #[.agg #[.int .i64 k, .string wd, .int .i64 n, .int .i64 a]] w (Back (.string ⟨(quoteL wd.data.toList).toArray⟩) w) := by
 have HT := Lib.hid ht
 have HB : Below w.heap.size w (w.alloc (Obj.cells #[.int .i64 k, .string wd, .int .i64 n, .int .i64 a] TT)) := (Below.refl _ _).alloc (Nat.le_refl _) _
 obtain ⟨Q, hQ⟩ : ∃ Q : ByteArray, (⟨(quoteL wd.data.toList).toArray⟩ : ByteArray) = Q := ⟨_, rfl⟩
 have HQ := fun (v : World) (hv : MaxV v) => quote_any wd v hs hv
 rw [hQ] at HQ ⊢
 have HQ := Lib.hid HQ
 subst h
 clear ht hQ
 go_enter Tryz.func149, Tryz.ntmps149
 go_wp2_with fail
 refine (HQ.out _ (HT.out.below HB)).mono ?_; rintro e w2 ⟨rfl, hb2⟩
 go_wp2_with fail
 go_ret
 exact ⟨rfl, HB.trans (hb2.mono HB.size)⟩
set_option maxRecDepth 100000 in
set_option maxHeartbeats 1600000 in
theorem spelled_5q (h : k = 5) (hs : wd.size ≤ 1073741824) (hA : arityP wd.data.toList < 0) (ht : MaxV w) :
  Calls Tryz.prog 149 #[.agg #[.int .i64 k, .string wd, .int .i64 n, .int .i64 a]] w (Back (.string ⟨(35 :: quoteL wd.data.toList).toArray⟩) w) := by
 have HT := Lib.hid ht
 have HB : Below w.heap.size w (w.alloc (Obj.cells #[.int .i64 k, .string wd, .int .i64 n, .int .i64 a] TT)) := (Below.refl _ _).alloc (Nat.le_refl _) _
 have HAR := fun (v : World) => Arity_any wd v (by omega)
 rw [arity_same] at HAR
 obtain ⟨ar, har⟩ : ∃ ar, arityP wd.data.toList = ar := ⟨_, rfl⟩
 rw [har] at HAR hA
 have HAR := Lib.hid HAR
 have hql : (quoteL wd.data.toList).length ≤ 2147483651 := by
  have h1 := esc_len wd.data.toList
  have h2 : wd.data.toList.count 39 ≤ wd.size := List.count_le_length
  have h3 : wd.data.toList.length = wd.size := rfl
  unfold quoteL; simp; omega
 obtain ⟨q, hq⟩ : ∃ q, quoteL wd.data.toList = q := ⟨_, rfl⟩
 have HQ := fun (v : World) (hv : MaxV v) => quote_any wd v hs hv
 rw [hq] at HQ hql ⊢
 have hc := cat2 35 ⟨q.toArray⟩
 rw [show (⟨q.toArray⟩ : ByteArray).data.toList = q from rfl] at hc
 have hsz : ((⟨q.toArray⟩ : ByteArray).size : Int) ≤ 2147483651 := by
  have : (⟨q.toArray⟩ : ByteArray).size = q.length := by simp [ByteArray.size]
  omega
 obtain ⟨Q, hQ⟩ : ∃ Q : ByteArray, (⟨q.toArray⟩ : ByteArray) = Q := ⟨_, rfl⟩
 obtain ⟨F, hF⟩ : ∃ F : ByteArray, (⟨(35 :: q).toArray⟩ : ByteArray) = F := ⟨_, rfl⟩
 rw [hQ] at HQ hc hsz
 rw [hF] at hc ⊢
 have HQ := Lib.hid HQ
 subst h
 clear ht hQ hF hq hql har
 go_enter Tryz.func149, Tryz.ntmps149
 go_wp2_with fail
 refine (HAR.out _).mono ?_; rintro e w2 ⟨rfl, hb2'⟩
 have hb2 := HB.trans (hb2'.mono HB.size)
 have ck : w2.cell? ⟨w.heap.size, 1, none⟩ = some (.string wd) := by
  exact (hb2'.cell (p := ⟨w.heap.size, 1, none⟩) (by simp)).trans (by simp)
 go_wp2_with fail
 refine (HQ.out _ (HT.out.below hb2)).mono ?_; rintro e w3 ⟨rfl, hb3⟩
 go_wp2_with fail
 go_ret
 exact ⟨rfl, hb2.trans (hb3.mono hb2.size)⟩
set_option maxRecDepth 100000 in
set_option maxHeartbeats 1600000 in
theorem spelled_5w (h : k = 5) (hs : wd.size ≤ 1073741824) (hA : ¬ arityP wd.data.toList < 0) :
  Calls Tryz.prog 149 #[.agg #[.int .i64 k, .string wd, .int .i64 n, .int .i64 a]] w (Back (.string ⟨(35 :: wd.data.toList).toArray⟩) w) := by
 have HB : Below w.heap.size w (w.alloc (Obj.cells #[.int .i64 k, .string wd, .int .i64 n, .int .i64 a] TT)) := (Below.refl _ _).alloc (Nat.le_refl _) _
 have HAR := fun (v : World) => Arity_any wd v (by omega)
 rw [arity_same] at HAR
 obtain ⟨ar, har⟩ : ∃ ar, arityP wd.data.toList = ar := ⟨_, rfl⟩
 rw [har] at HAR hA
 have HAR := Lib.hid HAR
 have hc := cat2 35 wd
 have hsz : (wd.size : Int) ≤ 1073741824 := by omega
 obtain ⟨F, hF⟩ : ∃ F : ByteArray, (⟨(35 :: wd.data.toList).toArray⟩ : ByteArray) = F := ⟨_, rfl⟩
 rw [hF] at hc ⊢
 subst h
 clear hF har
 go_enter Tryz.func149, Tryz.ntmps149
 go_wp2_with fail
 refine (HAR.out _).mono ?_; rintro e w2 ⟨rfl, hb2'⟩
 have hb2 := HB.trans (hb2'.mono HB.size)
 have ck : w2.cell? ⟨w.heap.size, 1, none⟩ = some (.string wd) := (hb2'.cell (p := ⟨w.heap.size, 1, none⟩) (by simp)).trans (by simp)
 have ck0 : w2.cell? ⟨w.heap.size, 0, none⟩ = some (.int .i64 5) := (hb2'.cell (p := ⟨w.heap.size, 0, none⟩) (by simp)).trans (by simp)
 go_wp2_with fail
 go_ret
 exact ⟨rfl, hb2⟩
set_option maxRecDepth 100000 in
set_option maxHeartbeats 1600000 in
theorem spelled_8 (h : k = 8) :
  Calls Tryz.prog 149 #[.agg #[.int .i64 k, .string wd, .int .i64 n, .int .i64 a]] w (Back (.string ⟨#[94]⟩) w) := by
 subst h
 go_enter Tryz.func149, Tryz.ntmps149
 go_wp2_with fail
 go_ret
 exact ⟨ret1 (congrArg Value.string (by rfl)), (Below.refl _ _).alloc (Nat.le_refl _) _⟩
set_option maxRecDepth 100000 in
set_option maxHeartbeats 1600000 in
theorem spelled_9 (h : k = 9) :
  Calls Tryz.prog 149 #[.agg #[.int .i64 k, .string wd, .int .i64 n, .int .i64 a]] w (Back (.string ⟨#[46]⟩) w) := by
 subst h
 go_enter Tryz.func149, Tryz.ntmps149
 go_wp2_with fail
 go_ret
 exact ⟨ret1 (congrArg Value.string (by rfl)), (Below.refl _ _).alloc (Nat.le_refl _) _⟩
set_option maxRecDepth 100000 in
set_option maxHeartbeats 1600000 in
theorem spelled_10 (h : k = 10) :
  Calls Tryz.prog 149 #[.agg #[.int .i64 k, .string wd, .int .i64 n, .int .i64 a]] w (Back (.string ⟨#[59]⟩) w) := by
 subst h
 go_enter Tryz.func149, Tryz.ntmps149
 go_wp2_with fail
 go_ret
 exact ⟨ret1 (congrArg Value.string (by rfl)), (Below.refl _ _).alloc (Nat.le_refl _) _⟩
set_option maxRecDepth 100000 in
set_option maxHeartbeats 1600000 in
theorem spelled_11 (h : k = 11) :
  Calls Tryz.prog 149 #[.agg #[.int .i64 k, .string wd, .int .i64 n, .int .i64 a]] w (Back (.string ⟨#[40]⟩) w) := by
 subst h
 go_enter Tryz.func149, Tryz.ntmps149
 go_wp2_with fail
 go_ret
 exact ⟨ret1 (congrArg Value.string (by rfl)), (Below.refl _ _).alloc (Nat.le_refl _) _⟩
set_option maxRecDepth 100000 in
set_option maxHeartbeats 1600000 in
theorem spelled_12 (h : k = 12) :
  Calls Tryz.prog 149 #[.agg #[.int .i64 k, .string wd, .int .i64 n, .int .i64 a]] w (Back (.string ⟨#[41]⟩) w) := by
 subst h
 go_enter Tryz.func149, Tryz.ntmps149
 go_wp2_with fail
 go_ret
 exact ⟨ret1 (congrArg Value.string (by rfl)), (Below.refl _ _).alloc (Nat.le_refl _) _⟩
set_option maxRecDepth 100000 in
set_option maxHeartbeats 1600000 in
theorem spelled_13 (h : k = 13) :
  Calls Tryz.prog 149 #[.agg #[.int .i64 k, .string wd, .int .i64 n, .int .i64 a]] w (Back (.string ⟨#[91]⟩) w) := by
 subst h
 go_enter Tryz.func149, Tryz.ntmps149
 go_wp2_with fail
 go_ret
 exact ⟨ret1 (congrArg Value.string (by rfl)), (Below.refl _ _).alloc (Nat.le_refl _) _⟩
set_option maxRecDepth 100000 in
set_option maxHeartbeats 1600000 in
theorem spelled_14 (h : k = 14) :
  Calls Tryz.prog 149 #[.agg #[.int .i64 k, .string wd, .int .i64 n, .int .i64 a]] w (Back (.string ⟨#[93]⟩) w) := by
 subst h
 go_enter Tryz.func149, Tryz.ntmps149
 go_wp2_with fail
 go_ret
 exact ⟨ret1 (congrArg Value.string (by rfl)), (Below.refl _ _).alloc (Nat.le_refl _) _⟩
set_option maxRecDepth 100000 in
set_option maxHeartbeats 1600000 in
theorem spelled_map (h1 : k < 1 ∨ 6 < k) (h2 : ¬ (8 ≤ k ∧ k ≤ 14)) (hk : -9223372036854775808 ≤ k ∧ k ≤ 9223372036854775807) :
  Calls Tryz.prog 149 #[.agg #[.int .i64 k, .string wd, .int .i64 n, .int .i64 a]] w (Back (.string ⟨(mapv k).toArray⟩) w) := by
 obtain ⟨u1, u2, u3, r1, r2, r3, r4, hb⟩ := map_runs (w.alloc (Obj.cells #[.int .i64 k, .string wd, .int .i64 n, .int .i64 a] TT)) k hk
 have HB : Below w.heap.size w (w.alloc (Obj.cells #[.int .i64 k, .string wd, .int .i64 n, .int .i64 a] TT)) := (Below.refl _ _).alloc (Nat.le_refl _) _
 have ck : u3.cell? ⟨w.heap.size, 0, none⟩ = some (.int .i64 k) := (hb.cell (p := ⟨w.heap.size, 0, none⟩) (by simp)).trans (by simp)
 have hb3 := HB.trans (hb.mono HB.size)
 have hms : (w.alloc (Obj.cells #[.int .i64 k, .string wd, .int .i64 n, .int .i64 a] TT)).heap.size = w.heap.size + 1 := by simp
 rw [hms] at r1 r2 r3 r4
 obtain ⟨V, hV⟩ : ∃ V : ByteArray, (⟨(mapv k).toArray⟩ : ByteArray) = V := ⟨_, rfl⟩
 rw [hV] at r4 ⊢
 have hmm := @run_makeMap Tryz.prog
 have n1 : (k == 1) = false := by rw [beq_eq_false_iff_ne]; omega
 have n2 : (k == 2) = false := by rw [beq_eq_false_iff_ne]; omega
 have n3 : (k == 3) = false := by rw [beq_eq_false_iff_ne]; omega
 have n4 : (k == 4) = false := by rw [beq_eq_false_iff_ne]; omega
 have n5 : (k == 5) = false := by rw [beq_eq_false_iff_ne]; omega
 have n6 : (k == 6) = false := by rw [beq_eq_false_iff_ne]; omega
 clear hb hms hV HB
 by_cases h8 : 8 ≤ k
 · have h14 : ¬ k ≤ 14 := by omega
   clear h1 h2
   go_enter Tryz.func149, Tryz.ntmps149
   go_wp2_with fail
   go_ret
   exact ⟨rfl, hb3⟩
 · clear h1 h2
   go_enter Tryz.func149, Tryz.ntmps149
   go_wp2_with fail
   go_ret
   exact ⟨rfl, hb3⟩
end Lx
end Go.Proofs.YtfbhokdcnjekiaaGreatDoor
namespace Go.Proofs.YtfbhokdcnjekiaaGreatDoor
open Go.RowKit
namespace Lx
variable {k n a : Int} {wd : ByteArray} {w : World}
theorem spelledL_map (k n : Int) (wd : Bytes) (h1 : k < 1 ∨ 6 < k) (h2 : ¬ (8 ≤ k ∧ k ≤ 14)) : spelledL k wd n = mapv k := by
 unfold spelledL mapv
 rw [if_neg (by omega), if_neg (by omega), if_neg (by omega), if_neg (by omega), if_neg h2]
theorem spelled_any (hk : -9223372036854775808 ≤ k ∧ k ≤ 9223372036854775807) (h0 : -9223372036854775808 ≤ n) (h1 : n ≤ 9223372036854775807) (hs : wd.size ≤ 1073741824) (ht : Pow10 w) (hm : MaxV w) :
  Calls Tryz.prog 149 #[.agg #[.int .i64 k, .string wd, .int .i64 n, .int .i64 a]] w (Back (.string ⟨(spelledL k wd.data.toList n).toArray⟩) w) := by
 by_cases c1 : k = 1
 · rw [sp1 _ _ (Or.inl c1)]; exact spelled_1 c1
 by_cases c2 : k = 2
 · rw [sp1 _ _ (Or.inr (Or.inl c2))]; exact spelled_2 c2
 by_cases c6 : k = 6
 · rw [sp1 _ _ (Or.inr (Or.inr c6))]; exact spelled_6 c6
 by_cases c3 : k = 3
 · have := spelled_3 (a := a) (wd := wd) c3 h0 h1 ht
   rw [c3, sp3]; rw [c3] at this; exact this
 by_cases c4 : k = 4
 · have := spelled_4 (a := a) (n := n) c4 hs hm
   rw [c4, sp4]; rw [c4] at this; exact this
 by_cases c5 : k = 5
 · subst c5
   rw [sp5]
   by_cases ha : arityP wd.data.toList < 0
   · rw [if_pos ha]; exact spelled_5q rfl hs ha hm
   · rw [if_neg ha]; exact spelled_5w rfl hs ha
 by_cases c8 : 8 ≤ k ∧ k ≤ 14
 · rcases (show k = 8 ∨ k = 9 ∨ k = 10 ∨ k = 11 ∨ k = 12 ∨ k = 13 ∨ k = 14 by omega) with h | h | h | h | h | h | h
   · subst h; exact spelled_8 rfl
   · subst h; exact spelled_9 rfl
   · subst h; exact spelled_10 rfl
   · subst h; exact spelled_11 rfl
   · subst h; exact spelled_12 rfl
   · subst h; exact spelled_13 rfl
   · subst h; exact spelled_14 rfl
 · rw [spelledL_map k n _ (by omega) c8]
   exact spelled_map (by omega) c8 hk
/-- What Spell hands back. -/
def Spelt (s : Bytes) (ok : Bool) (w : World) (e : Ending) (w' : World) : Prop :=
 Below w.heap.size w w' ∧ e = if ok = true then .returned (.tuple #[.string ⟨s.toArray⟩, .int .i64 0]) else .returned (.tuple #[.string ⟨#[]⟩, .int .i64 1])
theorem dec_len' (n : Nat) : ∀ u, u < 10 ^ (n + 1) → (Lib.decDigits u).length ≤ n + 1 := by
 induction n with
 | zero => intro u h; rw [Lib.decDigits, dif_pos (by omega)]; simp
 | succ n ih =>
  intro u h
  rw [Lib.decDigits]
  split
  · simp
  · have := ih (u / 10) (by rw [Nat.pow_succ] at h; omega)
    simp; omega
theorem dec_len64' (u : Nat) (h : u ≤ 9223372036854775808) : (Lib.decDigits u).length ≤ 20 := dec_len' 19 u (by
 have : (10 : Nat) ^ 20 = 100000000000000000000 := by decide
 rw [this]; omega)
theorem bytes_inj {x y : ByteArray} (h : x.toList = y.toList) : x = y := by
 rw [ByteArray.toList_eq, ByteArray.toList_eq] at h
 exact ByteArray.ext (Array.toList_inj.1 h)
theorem sp_len (k n : Int) (wd : Bytes) (h0 : -9223372036854775808 ≤ n) (h1 : n ≤ 9223372036854775807) : (spelledL k wd n).length ≤ 2 * wd.length + 25 := by
 have hq : (quoteL wd).length ≤ 2 * wd.length + 2 := by
  have h1 := esc_len wd
  have h2 : wd.count 39 ≤ wd.length := List.count_le_length
  unfold quoteL; simp; omega
 have hit : (Lib.itoa n).length ≤ 21 := by
  have hd := fun (u : Nat) (h : u ≤ 9223372036854775808) => dec_len64' u h
  unfold Lib.itoa
  split
  · have := hd n.natAbs (by omega); simp; omega
  · have := hd n.toNat (by omega); omega
 unfold spelledL
 split
 · omega
 · split
   · omega
   · split
     · omega
     · split
       · split <;> simp <;> omega
       · split
         · simp
         · split
           · simp
           · split
             · simp
             · split <;> simp
set_option maxRecDepth 100000 in
set_option maxHeartbeats 1600000 in
theorem Spell_any (hk : -9223372036854775808 ≤ k ∧ k ≤ 9223372036854775807) (h0 : -9223372036854775808 ≤ n) (h1 : n ≤ 9223372036854775807) (hs : wd.size ≤ 1073741824) (ht : Pow10 w) (hm : MaxV w) (hv : ErrVar w) :
  Calls Tryz.prog 133 #[.agg #[.int .i64 k, .string wd, .int .i64 n, .int .i64 a]] w (Spelt (spelledL k wd.data.toList n) (spellB (spelledL k wd.data.toList n) k wd.data.toList n) w) := by
 have hlen := sp_len k n wd.data.toList h0 h1
 have hwl : wd.data.toList.length = wd.size := rfl
 have hsp := fun (v : World) (h : Pow10 v) (h' : MaxV v) => spelled_any (a := a) hk h0 h1 hs h h'
 obtain ⟨S, hS⟩ : ∃ S, spelledL k wd.data.toList n = S := ⟨_, rfl⟩
 rw [hS] at hlen hsp ⊢
 obtain ⟨B, hB⟩ : ∃ B, spellB S k wd.data.toList n = B := ⟨_, rfl⟩
 rw [hB]
 have hBB := hB
 unfold spellB at hBB
 obtain ⟨SS, hSS⟩ : ∃ SS : ByteArray, (⟨S.toArray⟩ : ByteArray) = SS := ⟨_, rfl⟩
 have hsz : SS.size = S.length := by rw [← hSS]; simp [ByteArray.size]
 have hSl : SS.data.toList = S := by rw [← hSS]
 have hN := fun (v : World) (h : ErrVar v) => Next_any SS 0 0 v (by omega) (by omega) h
 rw [List.drop_zero, hSl] at hN
 obtain ⟨x, hx⟩ : ∃ x, nextR S = x := ⟨_, rfl⟩
 have herr := fun p n => nextR_err S p n
 rw [hx] at hN hBB herr
 rw [hSS] at hsp
 have HSP := Lib.hid hsp
 have HN := Lib.hid hN
 have HBB := Lib.hid hBB
 have HT := Lib.hid ht
 have HM := Lib.hid hm
 have HV := Lib.hid hv
 have HB0 : Below w.heap.size w (w.alloc (Obj.cells #[.int .i64 k, .string wd, .int .i64 n, .int .i64 a] TT)) := (Below.refl _ _).alloc (Nat.le_refl _) _
 have HSS := Lib.hid hSS
 have HSZ := Lib.hid hsz
 clear hsp hN hBB hB ht hm hv hx hSl hS hSS hwl hlen hsz
 cases x with
 | error y =>
  obtain ⟨p, m⟩ := y
  have hm0 := herr p m rfl
  have hmb : (m != 0) = true := by simpa using hm0
  have hBf : B = false := HBB.out.symm
  subst hBf
  clear herr hm0
  go_enter Tryz.func133, Tryz.ntmps133
  go_wp2_with fail
  refine (HSP.out _ (HT.out.below HB0) (HM.out.below HB0)).mono ?_; rintro e w2 ⟨rfl, hb2⟩
  have hT : Tk TT w.heap.size k wd n a w2 := (hb2.block _ (by simp)).trans (Tk.made w)
  have q3 := hT.c3
  have qf := hT.fz
  have hz2 : w.heap.size < w2.heap.size := by have := hb2.size; simp at this; omega
  have hb2 := HB0.trans (hb2.mono HB0.size)
  go_wp2_with fail
  have hT := hT.set3 0
  have hb3 : Below w.heap.size w (w2.setCell ⟨w.heap.size, 3, none⟩ (.int .i64 0)) := hb2.setCell (p := ⟨w.heap.size, 3, none⟩) (Nat.le_refl _) _
  have hz3 : w.heap.size < (w2.setCell ⟨w.heap.size, 3, none⟩ (.int .i64 0)).heap.size := by simpa [World.setCell] using hz2
  obtain ⟨W3, hW⟩ : ∃ W3, w2.setCell ⟨w.heap.size, 3, none⟩ (.int .i64 0) = W3 := ⟨_, rfl⟩
  rw [hW] at hT hb3 hz3 ⊢
  clear hW q3 qf hz2 hb2
  refine (HN.out _ (HV.out.below hb3)).mono ?_; rintro e w4 ⟨hb4, rfl⟩
  have hT : Tk TT w.heap.size k wd n 0 w4 := (hb4.block _ hz3).trans hT
  have hz4 : w.heap.size < w4.heap.size := Nat.lt_of_lt_of_le hz3 hb4.size
  have hb4 := hb3.trans (hb4.mono hb3.size)
  clear hb3 hz3
  have g0 := hT.c0
  have g1 := hT.c1
  have g2 := hT.c2
  have g3 := hT.c3
  rw [show tokV 0 ⟨0, [], 0, 0⟩ = .agg #[.int .i64 0, .string ⟨#[]⟩, .int .i64 0, .int .i64 0] from rfl]
  go_wp2_with fail
  go_ret2
  exact ⟨hb4.alloc (Nat.le_of_lt hz4) _, rfl⟩
 | ok y =>
  obtain ⟨t, m⟩ := y
  clear herr
  obtain ⟨kd, wd', nn, aa, hV, hq⟩ : ∃ (kd : Int) (wd' : ByteArray) (nn aa : Int), tokV 0 t = .agg #[.int .i64 kd, .string wd', .int .i64 nn, .int .i64 aa] ∧ (kd = (t.kind : Int) ∧ wd' = ⟨t.word.toArray⟩ ∧ nn = t.num ∧ aa = ((0 + t.at_ : Nat) : Int)) := ⟨_, _, _, _, rfl, rfl, rfl, rfl, rfl⟩
  have HQ := Lib.hid hq
  have HVV := Lib.hid hV
  clear hq hV
  by_cases hP : kd = k ∧ wd' = wd ∧ nn = n ∧ aa = 0 ∧ (m : Int) = (SS.size : Int)
  · have hBt : B = true := by
     rw [← HBB.out]
     obtain ⟨q1, q2, q3, q4⟩ := HQ.out
     obtain ⟨p1, p2, p3, p4, p5⟩ := hP
     have e1 : (t.kind : Int) = k := by rw [← q1]; exact p1
     have e2 : t.word = wd.data.toList := by rw [← p2, q2]
     have e3 : t.num = n := by rw [← q3]; exact p3
     have e4 : t.at_ = 0 := by omega
     have e5 : m = S.length := by have := HSZ.out; omega
     simp [e1, e2, e3, e4, e5]
    subst hBt
    obtain ⟨p1, p2, p3, rfl, p5⟩ := hP
    have p1 := p1.symm
    have p2 := p2.symm
    have p3 := p3.symm
    subst p1; subst p2; subst p3
    have p5b : ((m : Int) != (SS.size : Int)) = false := by simp [p5]
    clear p5
    go_enter Tryz.func133, Tryz.ntmps133
    go_wp2_with fail
    refine (HSP.out _ (HT.out.below HB0) (HM.out.below HB0)).mono ?_; rintro e w2 ⟨rfl, hb2⟩
    have hT : Tk TT w.heap.size k wd n a w2 := (hb2.block _ (by simp)).trans (Tk.made w)
    have q3 := hT.c3
    have qf := hT.fz
    have hz2 : w.heap.size < w2.heap.size := by have := hb2.size; simp at this; omega
    have hb2 := HB0.trans (hb2.mono HB0.size)
    go_wp2_with fail
    have hT := hT.set3 0
    have hb3 : Below w.heap.size w (w2.setCell ⟨w.heap.size, 3, none⟩ (.int .i64 0)) := hb2.setCell (p := ⟨w.heap.size, 3, none⟩) (Nat.le_refl _) _
    have hz3 : w.heap.size < (w2.setCell ⟨w.heap.size, 3, none⟩ (.int .i64 0)).heap.size := by simpa [World.setCell] using hz2
    obtain ⟨W3, hW⟩ : ∃ W3, w2.setCell ⟨w.heap.size, 3, none⟩ (.int .i64 0) = W3 := ⟨_, rfl⟩
    rw [hW] at hT hb3 hz3 ⊢
    clear hW q3 qf hz2 hb2
    refine (HN.out _ (HV.out.below hb3)).mono ?_; rintro e w4 ⟨hb4, rfl⟩
    have hT : Tk TT w.heap.size k wd n 0 w4 := (hb4.block _ hz3).trans hT
    have hz4 : w.heap.size < w4.heap.size := Nat.lt_of_lt_of_le hz3 hb4.size
    have hb4 := hb3.trans (hb4.mono hb3.size)
    clear hb3 hz3
    have g0 := hT.c0
    have g1 := hT.c1
    have g2 := hT.c2
    have g3 := hT.c3
    rw [HVV.out]
    go_wp2_with fail
    go_ret2
    refine ⟨hb4.alloc (Nat.le_of_lt hz4) _, ?_⟩
    rw [if_pos rfl, HSS.out]; rfl
  · have hBf : B = false := by
     cases B
     · rfl
     · exfalso
       have hb := HBB.out
       simp only [Bool.and_eq_true, decide_eq_true_eq] at hb
       obtain ⟨⟨⟨⟨b1, b2⟩, b3⟩, b4⟩, b5⟩ := hb
       obtain ⟨q1, q2, q3, q4⟩ := HQ.out
       refine hP ⟨q1.trans b1, ?_, q3.trans b3, by omega, by have := HSZ.out; omega⟩
       rw [q2, b2]
    subst hBf
    have HNP := Lib.hid hP
    clear hP
    go_enter Tryz.func133, Tryz.ntmps133
    go_wp2_with fail
    refine (HSP.out _ (HT.out.below HB0) (HM.out.below HB0)).mono ?_; rintro e w2 ⟨rfl, hb2⟩
    have hT : Tk TT w.heap.size k wd n a w2 := (hb2.block _ (by simp)).trans (Tk.made w)
    have q3 := hT.c3
    have qf := hT.fz
    have hz2 : w.heap.size < w2.heap.size := by have := hb2.size; simp at this; omega
    have hb2 := HB0.trans (hb2.mono HB0.size)
    go_wp2_with fail
    have hT := hT.set3 0
    have hb3 : Below w.heap.size w (w2.setCell ⟨w.heap.size, 3, none⟩ (.int .i64 0)) := hb2.setCell (p := ⟨w.heap.size, 3, none⟩) (Nat.le_refl _) _
    have hz3 : w.heap.size < (w2.setCell ⟨w.heap.size, 3, none⟩ (.int .i64 0)).heap.size := by simpa [World.setCell] using hz2
    obtain ⟨W3, hW⟩ : ∃ W3, w2.setCell ⟨w.heap.size, 3, none⟩ (.int .i64 0) = W3 := ⟨_, rfl⟩
    rw [hW] at hT hb3 hz3 ⊢
    clear hW q3 qf hz2 hb2
    refine (HN.out _ (HV.out.below hb3)).mono ?_; rintro e w4 ⟨hb4, rfl⟩
    have hT : Tk TT w.heap.size k wd n 0 w4 := (hb4.block _ hz3).trans hT
    have hz4 : w.heap.size < w4.heap.size := Nat.lt_of_lt_of_le hz3 hb4.size
    have hb4 := hb3.trans (hb4.mono hb3.size)
    clear hb3 hz3
    have g0 := hT.c0
    have g1 := hT.c1
    have g2 := hT.c2
    have g3 := hT.c3
    rw [HVV.out]
    go_wp2_with fail
    all_goals first
     | (go_ret2; exact ⟨hb4.alloc (Nat.le_of_lt hz4) _, rfl⟩)
     | (exfalso; exact HNP.out ⟨by assumption, bytes_inj (by assumption), by assumption, by assumption, by simpa using ‹((m : Int) != (SS.size : Int)) = false›⟩)
end Lx
end Go.Proofs.YtfbhokdcnjekiaaGreatDoor
