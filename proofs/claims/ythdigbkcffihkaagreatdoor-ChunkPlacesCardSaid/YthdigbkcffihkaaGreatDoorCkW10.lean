/- Package chunk, the walk, 9: Read, Place; awake. · ChunkPlaces: plain laws. -/
import Derived.Test.YthdigbkcffihkaaGreatDoorCkW8
set_option linter.unusedVariables false
namespace Go.Proofs.YthdigbkcffihkaaGreatDoor
open Go.RowKit
namespace Ck
open Lx
variable {w : World}
theorem read_any (s : ByteArray) (w : World) (hev : ErrVar w) :
    Calls Tryz.prog 8 #[.string s] w (Readed (readR s.data.toList) w) := by
  by_cases h : 65536 < s.size
  · exact read_big s w h
  · exact read_small s w h hev
/-- Where a text's byte stands. -/
def placeL (at_ : Nat) (t : Bytes) (i : Int) : Nat := at_ + (max 0 (min i (t.length : Int))).toNat + cnt (t.take (max 0 (min i (t.length : Int))).toNat)
set_option maxRecDepth 100000 in
set_option maxHeartbeats 800000 in
theorem place_any (c tx : ByteArray) (m : Bool) (at_ : Nat) (i : Int) (w : World) (hs : tx.size ≤ 1099511627) (ha : at_ ≤ 1099511627) :
    Calls Tryz.prog 12 #[.agg #[.string c, .bool m, .string tx, .int .i64 (at_ : Int)], .int .i64 i] w (Back (.int .i64 (placeL at_ tx.data.toList i : Nat)) w) := by
  obtain ⟨j, hj, hjs⟩ : ∃ j : Nat, max 0 (min i (tx.size : Int)) = (j : Int) ∧ j ≤ tx.size := ⟨(max 0 (min i (tx.size : Int))).toNat, by omega, by omega⟩
  have hpl : placeL at_ tx.data.toList i = at_ + j + cnt (tx.data.toList.take j) := by
    unfold placeL
    rw [show (tx.data.toList.length : Int) = (tx.size : Int) from rfl, hj]
    rfl
  have hcl : cnt (tx.data.toList.take j) ≤ j := by
    have h1 : cnt (tx.data.toList.take j) ≤ (tx.data.toList.take j).length := List.count_le_length
    rw [List.length_take] at h1
    omega
  rw [hpl]
  obtain ⟨y, hy⟩ : ∃ y : ByteArray, tx.extract 0 j = y := ⟨_, rfl⟩
  have dy : y.data.toList = tx.data.toList.take j := by rw [← hy]; simp [ByteArray.extract, ByteArray.copySlice]
  have hC := fun v : World => Tryz.strings_Count_one y 33 v
  rw [dy, show Lib.countByte (tx.data.toList.take j) 33 = cnt (tx.data.toList.take j) from rfl] at hC
  obtain ⟨q, hq⟩ : ∃ q, cnt (tx.data.toList.take j) = q := ⟨_, rfl⟩
  rw [hq] at hC hcl ⊢
  have HC := Lib.hid hC
  clear hpl dy hC hq
  have s1 : IntKind.i64.wrap ((at_ : Int) + (j : Int)) = (at_ : Int) + (j : Int) := IntWalk.i64_in _ (by omega)
  have s2 : IntKind.i64.wrap ((at_ : Int) + (j : Int) + (q : Int)) = ((at_ + j + q : Nat) : Int) := by rw [show ((at_ : Int) + (j : Int) + (q : Int)) = ((at_ + j + q : Nat) : Int) by omega]; exact IntWalk.i64_in _ (by omega)
  have S2 := Lib.hid s2
  clear s2
  have h0 : (0 : Int) ≤ (j : Int) := by omega
  have h1 : (j : Int) ≤ (tx.size : Int) := by omega
  go_enter Tryz.func12, Tryz.ntmps12
  go_wp2_with fail
  have hk := Blk.made (T := SrT) (cs := #[.string c, .bool m, .string tx, .int .i64 (at_ : Int)]) w
  have hb : Below w.heap.size w (w.alloc (.cells #[.string c, .bool m, .string tx, .int .i64 (at_ : Int)] SrT)) := (Below.refl _ _).alloc (Nat.le_refl _) _
  obtain ⟨W, hW⟩ : ∃ W, w.alloc (.cells #[.string c, .bool m, .string tx, .int .i64 (at_ : Int)] SrT) = W := ⟨_, rfl⟩
  rw [hW] at hk hb ⊢
  clear hW
  have c2 := hk.c 2 _ rfl
  have c3 := hk.c 3 _ rfl
  go_region_with (go_at_call 23; refine (HC.out _).mono ?_; rintro e w' ⟨rfl, rfl⟩)
  all_goals
    go_wp2_with fail
    go_ret
    rw [S2.out]
    exact ⟨rfl, hb.drew⟩
def awakeB : Bytes := [110, 105, 108, 32, 115, 117, 98, 99, 108, 97, 115, 115, 58, 32, 35, 79, 98, 106, 101, 99, 116, 32, 102, 105, 101, 108, 100, 115, 58, 32, 39, 39, 33, 32, 79, 98, 106, 101, 99, 116, 32, 109, 101, 116, 104, 111, 100, 115, 33, 32, 120, 32, 94, 49, 33, 32, 33]
theorem awake_read : readR awakeB = .ok ([⟨[79, 98, 106, 101, 99, 116], [], [], 0⟩], [⟨[79, 98, 106, 101, 99, 116], false, [120, 32, 94, 49], 50⟩]) := by rfl
theorem srcs_at {w : World} {B n c gg : Nat} {l : List Src} (h : w.ownsRow B SrT 4 (.slice (some ⟨gg, 0, none⟩) n c) l.length (flatS l)) (i : Nat) (x : Src) (hx : l[i]? = some x) :
    w.cell? ⟨gg, i * 4, none⟩ = some (.string ⟨x.cls.toArray⟩) ∧ w.cell? ⟨gg, i * 4 + 1, none⟩ = some (.bool x.meta_) ∧ w.cell? ⟨gg, i * 4 + 2, none⟩ = some (.string ⟨x.text.toArray⟩) ∧ w.cell? ⟨gg, i * 4 + 3, none⟩ = some (.int .i64 (x.at_ : Int)) := by
  have hf : ∀ (l : List Src) (i : Nat) (p : Src), l[i]? = some p → ∀ j u, (srcV p)[j]? = some u → (flatS l)[i * 4 + j]? = some u := by
    intro l
    induction l with
    | nil => intro i p h; simp at h
    | cons t l ih =>
      intro i p h j u hu
      have hj : j < (srcV t).length := by
        have := (List.getElem?_eq_some_iff.1 hu).1
        exact this
      cases i with
      | zero =>
        simp at h; subst h
        unfold flatS; rw [List.flatMap_cons, Nat.zero_mul, Nat.zero_add, List.getElem?_append_left hj]; exact hu
      | succ i =>
        have ih := ih i p (by simpa using h) j u hu
        unfold flatS at ih ⊢
        have h4 : (srcV t).length = 4 := rfl
        rw [List.flatMap_cons, List.getElem?_append_right (by rw [h4]; omega), h4, show (i + 1) * 4 + j - 4 = i * 4 + j by omega]
        exact ih
  have ha : ∀ k : Nat, (⟨gg, 0, none⟩ : Addr).add k = ⟨gg, k, none⟩ := fun k => by unfold Addr.add; split <;> simp_all
  have hh := fun j u hu => World.ownsRow.cells h (g := gg) rfl (i * 4 + j) u (hf l i x hx j u hu)
  simp only [ha] at hh
  exact ⟨hh 0 _ rfl, hh 1 _ rfl, hh 2 _ rfl, hh 3 _ rfl⟩
set_option maxRecDepth 100000 in
set_option maxHeartbeats 1600000 in
theorem awake12_any (w : World) (hev : ErrVar w) : Calls Tryz.prog 7 #[] w (Back (.bool true) w) := by
  have hR := fun v (h : ErrVar v) => read_any ⟨awakeB.toArray⟩ v h
  rw [show (⟨awakeB.toArray⟩ : ByteArray).data.toList = awakeB from rfl, awake_read] at hR
  have HR := Lib.hid hR
  clear hR
  go_enter Tryz.func7, Tryz.ntmps7
  go_wp2_with fail
  refine (HR.out w hev).mono ?_; rintro e w1 ⟨hb, cv, sv, rfl, cl, hcl, hownC, hfl, hownS⟩
  have hc1 : cl.length = 1 := by have := congrArg List.length hcl; simpa using this
  obtain ⟨co, cc, rfl, hco⟩ := own_slice hownC
  obtain ⟨so, sc, rfl, hso⟩ := own_slice hownS
  rw [hc1] at hco ⊢
  simp only [List.length_cons, List.length_nil, Nat.zero_add] at hso hownS ⊢
  obtain ⟨gs, rfl, hgs1, hgs2, hgs3, hgs4⟩ := hso (by omega)
  obtain ⟨c0, c1, c2, c3⟩ := srcs_at (l := [⟨[79, 98, 106, 101, 99, 116], false, [120, 32, 94, 49], 50⟩]) hownS 0 _ rfl
  simp only [Nat.zero_mul, Nat.zero_add] at c0 c1 c2 c3
  clear hownC hownS hfl hcl hc1 hco hso
  go_wp2_with fail
  go_ret
  exact ⟨rfl, hb.alloc hb.size _⟩
end Ck
end Go.Proofs.YthdigbkcffihkaaGreatDoor
namespace Go.Proofs.YthdigbkcffihkaaGreatDoor
open Go.RowKit
namespace Ck
open Lx
theorem read_mild (s : Bytes) (cs : List Cls) (ss : List Src) (h : readR s = .ok (cs, ss)) : ∀ x ∈ ss, x.text.length ≤ s.length ∧ x.at_ ≤ s.length := by
  obtain ⟨_, h2, _⟩ := readR_ok h
  intro x hx
  rcases readP_ss _ _ _ h2 x hx with h0 | ⟨p, hp, h3, h4⟩
  · cases h0
  · have := (cut_le s).2.1 p hp
    rw [h3, h4]
    exact this
theorem place_in (at_ : Nat) (t : Bytes) (k : Nat) (h : k < t.length) : placeL at_ t (k : Int) = at_ + k + cnt (t.take k) := by
  unfold placeL
  rw [show (max 0 (min (k : Int) (t.length : Int))).toNat = k by omega]
theorem place_neg (at_ : Nat) (t : Bytes) (i : Int) (h : i < 0) : placeL at_ t i = at_ := by
  unfold placeL
  rw [show (max 0 (min i (t.length : Int))).toNat = 0 by omega]
  simp [cnt, Lib.countByte]
theorem place_far (at_ : Nat) (t : Bytes) (i : Int) (h : (t.length : Int) ≤ i) : placeL at_ t i = placeL at_ t (t.length : Int) := by
  unfold placeL
  rw [show (max 0 (min i (t.length : Int))).toNat = (max 0 (min (t.length : Int) (t.length : Int))).toNat by omega]
/-- At most n bytes. -/
def cutB (s : ByteArray) (n : Nat) : ByteArray := if n < s.size then s.extract 0 n else s
theorem cutB_le (s : ByteArray) (n : Nat) : (cutB s n).size ≤ n := by
  unfold cutB; split
  · rw [ByteArray.size_extract]; omega
  · omega
end Ck
end Go.Proofs.YthdigbkcffihkaaGreatDoor
