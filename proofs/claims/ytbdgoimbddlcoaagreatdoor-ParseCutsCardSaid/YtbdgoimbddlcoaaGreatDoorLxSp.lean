/- Package lex, the walk: quote, spelled. · Package lex, the walk: quote, spelled, by kind (wip/gen/gen_spl.py prints this). · Package lex, the walk: spelled whole; Spell. -/
import Derived.Test.YtbdgoimbddlcoaaGreatDoorLxE3
import Derived.Test.YtbdgoimbddlcoaaGreatDoorShelfR
import Derived.Maps.Own
import Derived.Maps.Views
import Derived.Maps.StringElems
set_option linter.unusedVariables false
namespace Go.Proofs.YtbdgoimbddlcoaaGreatDoor
open Go.RowKit Go.Maps
namespace Lx
theorem arity_same (w : Bytes) : arityL w = arityP w := rfl
abbrev MT : Nat := 213
end Lx
end Go.Proofs.YtbdgoimbddlcoaaGreatDoor
namespace Go.Proofs.YtbdgoimbddlcoaaGreatDoor
open Go.RowKit
namespace Lx
/-- The library's length limit can be read. -/
def MaxV (w : World) : Prop := ∃ m, w.cell? ⟨0, 0, none⟩ = some (.int .i64 m)
theorem MaxV.lt {w : World} (h : MaxV w) : 0 < w.heap.size := by
 obtain ⟨m, hm⟩ := h
 rcases Nat.lt_or_ge 0 w.heap.size with h | h
 · exact h
 · unfold World.cell? at hm; simp [Array.getElem?_eq_none h] at hm
theorem MaxV.below {w w' : World} (h : MaxV w) (hb : Below w.heap.size w w') : MaxV w' := by
 have hl := h.lt
 obtain ⟨m, hm⟩ := h
 exact ⟨m, (hb.cell (p := ⟨_, 0, none⟩) hl).trans hm⟩
def Pow10 (w : World) : Prop := Lib.TabIs Tryz.prog w "internal/strconv.uint64pow10" .u64 Lib.pow10Tab
theorem Pow10.below {w w' : World} (h : Pow10 w) (hb : Below w.heap.size w w') : Pow10 w' := by
 have hg : Tryz.prog.globalNamed "internal/strconv.uint64pow10" = some 1 := by kernel_rfl
 unfold Pow10 Lib.TabIs at *
 refine var?_below hb hg ?_ h
 rcases Nat.lt_or_ge 1 w.heap.size with hh | hh
 · exact hh
 · exfalso
   unfold World.var? at h
   simp only [hg, Option.bind_some, Array.getElem?_eq_none hh] at h
   cases h
theorem below_grows (w : World) (k : Nat) (os : Array Obj) : Below w.heap.size w (Sort.grow (w.drewN k) os) :=
 ⟨rfl, rfl, rfl, by show w.heap.size ≤ (w.heap ++ os).size; rw [Array.size_append]; omega, fun j hj => by
  show (w.heap ++ os)[j]? = w.heap[j]?
  exact Array.getElem?_append_left hj⟩
theorem text_num (n : Int) (h0 : -9223372036854775808 ≤ n) (h1 : n ≤ 9223372036854775807) (w : World) (ht : Pow10 w) :
  Calls Tryz.prog 42 #[.int .i64 n] w (Back (.string ⟨(Lib.itoa n).toArray⟩) w) := by
 go_enter Tryz.func42, Tryz.ntmps42
 go_wp2_with fail
 refine (Tryz.strconv_FormatInt_10 n h0 h1 w ht).mono ?_
 rintro e w' ⟨rfl, k, os, rfl⟩
 go_wp2_with fail
 go_ret
 exact ⟨rfl, below_grows _ _ _⟩
theorem cat3 (a b : UInt8) (l : List UInt8) : (⟨#[a]⟩ : ByteArray) ++ ⟨l.toArray⟩ ++ ⟨#[b]⟩ = ⟨(a :: (l ++ [b])).toArray⟩ := by
 apply ByteArray.ext; apply Array.toList_inj.1; simp [ByteArray.data_append]
theorem cat2 (a : UInt8) (s : ByteArray) : (⟨#[a]⟩ : ByteArray) ++ s = ⟨(a :: s.data.toList).toArray⟩ := by
 apply ByteArray.ext; apply Array.toList_inj.1; simp [ByteArray.data_append]
set_option maxHeartbeats 1600000 in
theorem quote_any (s : ByteArray) (w : World) (hs : s.size ≤ 1073741824) (hm : MaxV w) :
  Calls Tryz.prog 205 #[.string s] w (Back (.string ⟨(quoteL s.data.toList).toArray⟩) w) := by
 obtain ⟨m, hm⟩ := hm
 have hcnt : Lib.countB s ⟨#[39]⟩ ≤ s.size := by
  have h1 : Lib.countB s ⟨#[39]⟩ = s.data.toList.count 39 := by
   show Lib.count s.data.toList [39] = _; exact Lib.count_one 39 _
  rw [h1]; exact List.count_le_length
 have hr := Tryz.strings_ReplaceAll s ⟨#[39]⟩ ⟨#[39, 39]⟩ m w (by omega) hm (by decide) (by
  have : (⟨#[39, 39]⟩ : ByteArray).size = 2 := rfl
  rw [this]; omega)
 rw [show (⟨#[39]⟩ : ByteArray).data.toList = [39] from rfl, show (⟨#[39, 39]⟩ : ByteArray).data.toList = [39, 39] from rfl, replace_esc] at hr
 have hel := esc_len s.data.toList
 have hcl : s.data.toList.count 39 ≤ s.size := List.count_le_length
 have hsl : s.data.toList.length = s.size := rfl
 have hq : (quoteL s.data.toList) = 39 :: (esc s.data.toList ++ [39]) := rfl
 rw [hq]
 have hE : ((⟨(esc s.data.toList).toArray⟩ : ByteArray).size : Int) ≤ 2147483648 := by
  have : (⟨(esc s.data.toList).toArray⟩ : ByteArray).size = (esc s.data.toList).length := by simp [ByteArray.size]
  omega
 obtain ⟨E, hEE⟩ : ∃ E : ByteArray, (⟨(esc s.data.toList).toArray⟩ : ByteArray) = E := ⟨_, rfl⟩
 have hc3 := cat3 39 39 (esc s.data.toList)
 rw [hEE] at hr hE hc3
 obtain ⟨F, hF⟩ : ∃ F : ByteArray, (⟨(39 :: (esc s.data.toList ++ [39])).toArray⟩ : ByteArray) = F := ⟨_, rfl⟩
 rw [hF] at hc3 ⊢
 have HR := Lib.hid hr
 clear hr hm hcnt hel hcl hsl hq hEE hF
 go_enter Tryz.func205, Tryz.ntmps205
 go_wp2_with fail
 refine HR.out.mono ?_; rintro e w' ⟨rfl, hb⟩
 go_wp2_with fail
 go_ret
 exact ⟨rfl, hb⟩
variable {k n a : Int} {wd : ByteArray} {w : World}
set_option maxRecDepth 100000 in
set_option maxHeartbeats 1600000 in
theorem spelled_4 (h : k = 4) (hs : wd.size ≤ 1073741824) (ht : MaxV w) :
  Calls Tryz.prog 189 #[.agg #[.int .i64 k, .string wd, .int .i64 n, .int .i64 a]] w (Back (.string ⟨(quoteL wd.data.toList).toArray⟩) w) := by
 have HT := Lib.hid ht
 have HB : Below w.heap.size w (w.alloc (Obj.cells #[.int .i64 k, .string wd, .int .i64 n, .int .i64 a] TT)) := (Below.refl _ _).alloc (Nat.le_refl _) _
 obtain ⟨Q, hQ⟩ : ∃ Q : ByteArray, (⟨(quoteL wd.data.toList).toArray⟩ : ByteArray) = Q := ⟨_, rfl⟩
 have HQ := fun (v : World) (hv : MaxV v) => quote_any wd v hs hv
 rw [hQ] at HQ ⊢
 have HQ := Lib.hid HQ
 subst h
 clear ht hQ
 go_enter Tryz.func189, Tryz.ntmps189
 go_wp2_with fail
 refine (HQ.out _ (HT.out.below HB)).mono ?_; rintro e w2 ⟨rfl, hb2⟩
 go_wp2_with fail
 go_ret
 exact ⟨rfl, HB.trans (hb2.mono HB.size)⟩
set_option maxRecDepth 100000 in
set_option maxHeartbeats 1600000 in
theorem spelled_5q (h : k = 5) (hs : wd.size ≤ 1073741824) (hA : arityP wd.data.toList < 0) (ht : MaxV w) :
  Calls Tryz.prog 189 #[.agg #[.int .i64 k, .string wd, .int .i64 n, .int .i64 a]] w (Back (.string ⟨(35 :: quoteL wd.data.toList).toArray⟩) w) := by
 have HT := Lib.hid ht
 have HB : Below w.heap.size w (w.alloc (Obj.cells #[.int .i64 k, .string wd, .int .i64 n, .int .i64 a] TT)) := (Below.refl _ _).alloc (Nat.le_refl _) _
 have HAR := fun (v : World) => Arity_any wd v (by omega)
 rw [arity_same] at HAR
 obtain ⟨ar, har⟩ : ∃ ar, arityP wd.data.toList = ar := ⟨_, rfl⟩
 rw [har] at HAR hA
 have HAR := Lib.hid HAR
 have hql : (quoteL wd.data.toList).length ≤ 2147483651 := by
  have h1 := esc_len wd.data.toList
  have h2 : wd.data.toList.count 39 ≤ wd.size := List.count_le_length
  have h3 : wd.data.toList.length = wd.size := rfl
  unfold quoteL; simp; omega
 obtain ⟨q, hq⟩ : ∃ q, quoteL wd.data.toList = q := ⟨_, rfl⟩
 have HQ := fun (v : World) (hv : MaxV v) => quote_any wd v hs hv
 rw [hq] at HQ hql ⊢
 have hc := cat2 35 ⟨q.toArray⟩
 rw [show (⟨q.toArray⟩ : ByteArray).data.toList = q from rfl] at hc
 have hsz : ((⟨q.toArray⟩ : ByteArray).size : Int) ≤ 2147483651 := by
  have : (⟨q.toArray⟩ : ByteArray).size = q.length := by simp [ByteArray.size]
  omega
 obtain ⟨Q, hQ⟩ : ∃ Q : ByteArray, (⟨q.toArray⟩ : ByteArray) = Q := ⟨_, rfl⟩
 obtain ⟨F, hF⟩ : ∃ F : ByteArray, (⟨(35 :: q).toArray⟩ : ByteArray) = F := ⟨_, rfl⟩
 rw [hQ] at HQ hc hsz
 rw [hF] at hc ⊢
 have HQ := Lib.hid HQ
 subst h
 clear ht hQ hF hq hql har
 go_enter Tryz.func189, Tryz.ntmps189
 go_wp2_with fail
 refine (HAR.out _).mono ?_; rintro e w2 ⟨rfl, hb2'⟩
 have hb2 := HB.trans (hb2'.mono HB.size)
 have ck : w2.cell? ⟨w.heap.size, 1, none⟩ = some (.string wd) := by
  exact (hb2'.cell (p := ⟨w.heap.size, 1, none⟩) (by simp)).trans (by simp)
 go_wp2_with fail
 refine (HQ.out _ (HT.out.below hb2)).mono ?_; rintro e w3 ⟨rfl, hb3⟩
 go_wp2_with fail
 go_ret
 exact ⟨rfl, hb2.trans (hb3.mono hb2.size)⟩
set_option maxRecDepth 100000 in
set_option maxHeartbeats 1600000 in
theorem spelled_5w (h : k = 5) (hs : wd.size ≤ 1073741824) (hA : ¬ arityP wd.data.toList < 0) :
  Calls Tryz.prog 189 #[.agg #[.int .i64 k, .string wd, .int .i64 n, .int .i64 a]] w (Back (.string ⟨(35 :: wd.data.toList).toArray⟩) w) := by
 have HB : Below w.heap.size w (w.alloc (Obj.cells #[.int .i64 k, .string wd, .int .i64 n, .int .i64 a] TT)) := (Below.refl _ _).alloc (Nat.le_refl _) _
 have HAR := fun (v : World) => Arity_any wd v (by omega)
 rw [arity_same] at HAR
 obtain ⟨ar, har⟩ : ∃ ar, arityP wd.data.toList = ar := ⟨_, rfl⟩
 rw [har] at HAR hA
 have HAR := Lib.hid HAR
 have hc := cat2 35 wd
 have hsz : (wd.size : Int) ≤ 1073741824 := by omega
 obtain ⟨F, hF⟩ : ∃ F : ByteArray, (⟨(35 :: wd.data.toList).toArray⟩ : ByteArray) = F := ⟨_, rfl⟩
 rw [hF] at hc ⊢
 subst h
 clear hF har
 go_enter Tryz.func189, Tryz.ntmps189
 go_wp2_with fail
 refine (HAR.out _).mono ?_; rintro e w2 ⟨rfl, hb2'⟩
 have hb2 := HB.trans (hb2'.mono HB.size)
 have ck : w2.cell? ⟨w.heap.size, 1, none⟩ = some (.string wd) := (hb2'.cell (p := ⟨w.heap.size, 1, none⟩) (by simp)).trans (by simp)
 have ck0 : w2.cell? ⟨w.heap.size, 0, none⟩ = some (.int .i64 5) := (hb2'.cell (p := ⟨w.heap.size, 0, none⟩) (by simp)).trans (by simp)
 go_wp2_with fail
 go_ret
 exact ⟨rfl, hb2⟩
end Lx
end Go.Proofs.YtbdgoimbddlcoaaGreatDoor
namespace Go.Proofs.YtbdgoimbddlcoaaGreatDoor
open Go.RowKit
namespace Lx
variable {k n a : Int} {wd : ByteArray} {w : World}
/-- What Spell hands back. -/
def Spelt (s : Bytes) (ok : Bool) (w : World) (e : Ending) (w' : World) : Prop :=
 Below w.heap.size w w' ∧ e = if ok = true then .returned (.tuple #[.string ⟨s.toArray⟩, .int .i64 0]) else .returned (.tuple #[.string ⟨#[]⟩, .int .i64 1])
theorem dec_len' (n : Nat) : ∀ u, u < 10 ^ (n + 1) → (Lib.decDigits u).length ≤ n + 1 := by
 induction n with
 | zero => intro u h; rw [Lib.decDigits, dif_pos (by omega)]; simp
 | succ n ih =>
  intro u h
  rw [Lib.decDigits]
  split
  · simp
  · have := ih (u / 10) (by rw [Nat.pow_succ] at h; omega)
    simp; omega
theorem dec_len64' (u : Nat) (h : u ≤ 9223372036854775808) : (Lib.decDigits u).length ≤ 20 := dec_len' 19 u (by
 have : (10 : Nat) ^ 20 = 100000000000000000000 := by decide
 rw [this]; omega)
theorem bytes_inj {x y : ByteArray} (h : x.toList = y.toList) : x = y := by
 rw [ByteArray.toList_eq, ByteArray.toList_eq] at h
 exact ByteArray.ext (Array.toList_inj.1 h)
theorem sp_len (k n : Int) (wd : Bytes) (h0 : -9223372036854775808 ≤ n) (h1 : n ≤ 9223372036854775807) : (spelledL k wd n).length ≤ 2 * wd.length + 25 := by
 have hq : (quoteL wd).length ≤ 2 * wd.length + 2 := by
  have h1 := esc_len wd
  have h2 : wd.count 39 ≤ wd.length := List.count_le_length
  unfold quoteL; simp; omega
 have hit : (Lib.itoa n).length ≤ 21 := by
  have hd := fun (u : Nat) (h : u ≤ 9223372036854775808) => dec_len64' u h
  unfold Lib.itoa
  split
  · have := hd n.natAbs (by omega); simp; omega
  · have := hd n.toNat (by omega); omega
 unfold spelledL
 split
 · omega
 · split
   · omega
   · split
     · omega
     · split
       · split <;> simp <;> omega
       · split
         · simp
         · split
           · simp
           · split
             · simp
             · split <;> simp
end Lx
end Go.Proofs.YtbdgoimbddlcoaaGreatDoor
