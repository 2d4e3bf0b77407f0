/- Chapter 08: append(append(append([]string{}, out[:at]...), s), out[at:]...) in each order of its parts. No walk. -/
import Derived.Test.YtojblndlchcjeaaHpTx
import Derived.Test.YtojblndlchcjeaaHpAa
set_option linter.unusedVariables false
namespace Go.Proofs.Ytojblndlchcjeaa
open Go.RowKit
namespace Hp
open Bs Sm
theorem st_info : ∃ i : TypeInfo, Try.prog.info? ST1 = some i ∧ i.zero = some (.string ⟨#[]⟩) ∧ i.size = 1 ∧ i.bytes = 16 := by
  obtain ⟨i, h, h1, h2, h3⟩ := info_parts (show (Try.prog.info? ST1).map (fun i => (i.zero, i.size, i.bytes)) = some (some (.string ⟨#[]⟩), 1, 16) by kernel_rfl)
  exact ⟨i, h, h1, h2, h3⟩
def OwnS (B : Nat) (w : World) (v : Value) (L : List Bts) : Prop := w.ownsRow B ST1 1 v L.length (L.map strV)
theorem OwnS.form {B : Nat} {w : World} {v : Value} {L : List Bts} (h : OwnS B w v L) : ∃ a c, v = .slice a L.length c := by
  obtain ⟨a, c, e, -⟩ := own_slice h
  exact ⟨a, c, e⟩
theorem own_caps {w : World} {B e size n m c : Nat} {a : Option Addr} {xs : List Value} (h : w.ownsRow B e size (.slice a n c) m xs) : n ≤ c ∧ c ≤ maxLen := by
  rcases h.2 with ⟨e, hn0⟩ | ⟨g1, cap1, cur1, e, -, -, h1, h2, -⟩
  · injection e with e1 e2 e3
    subst e2
    subst e3
    exact ⟨Nat.le_refl _, by unfold maxLen; omega⟩
  · injection e with e1 e2 e3
    subst e2
    subst e3
    exact ⟨h1, h2⟩
abbrev AppS (v xv : Value) (w : World) (v' : Value) (w' : World) : Prop := (Builtin.append_ #[25, 25] 25 #[v, xv]).run Try.prog w = .ok v' w'
theorem app_s {S : Nat → Prop} {w : World} {B : Nat} {v xv : Value} {L M : List Bts} (h : OwnS B w v L) (hr : Rd S strV w xv M) (hn : L.length + M.length ≤ 100000) (hB : B ≤ w.heap.size) :
    ∃ v' w', AppS v xv w v' w' ∧ OwnS B w' v' (L ++ M) ∧ w.grownBy w' v.ownBlock := by
  obtain ⟨i0, hi0, hz0, hz1, hz2⟩ := st_info
  obtain ⟨v', w', r1, r2, r3⟩ := run_rd (P := Try.prog) (fun x => rfl) 25 25 ST1 (by kernel_rfl) i0 (.string ⟨#[]⟩) 16 hi0 hz0 hz1 hz2 rfl h hr (by unfold maxLen; omega) (by omega) hB
  refine ⟨v', w', r1, ?_, r3⟩
  unfold OwnS
  rw [List.length_append, List.map_append]
  exact r2
theorem Rd.drop {α : Type} {S : Nat → Prop} {f : α → Value} {w : World} {l : List α} {b off n cap : Nat} (h : Rd S f w (.slice (some ⟨b, off, none⟩) n cap) l) (k : Nat) (hk : k ≤ n) : Rd S f w (.slice (some ⟨b, off + k, none⟩) (n - k) (cap - k)) (l.drop k) := by
  obtain ⟨a', cap', h1, h2, h3, h5, h4⟩ := h
  cases h1
  have hl : (l.drop k).length = l.length - k := List.length_drop
  refine ⟨_, _, by rw [hl], by rw [hl]; omega, by omega, (fun e => by cases e), fun hl2 => ?_⟩
  rw [hl] at hl2
  obtain ⟨b', off', e, k0, k2, k3⟩ := h4 (by omega)
  cases e
  refine ⟨b, off + k, rfl, k0, k2, fun i x hx => ?_⟩
  rw [List.getElem?_drop] at hx
  rw [Nat.add_assoc]
  exact k3 _ x hx
theorem Rd.none_ {α : Type} {S : Nat → Prop} {f : α → Value} {w : World} (a : Addr) (c : Nat) (hc : c ≤ maxLen) : Rd S f w (.slice (some a) 0 c) [] := ⟨some a, c, rfl, Nat.zero_le _, hc, (fun e => by cases e), fun h => by simp at h⟩
/-- The last two appends. -/
theorem ins_apps {S : Nat → Prop} {w5 : World} {B k : Nat} {v30 kv VD : Value} {L : List Bts} {x : Bts} (h : OwnS B w5 v30 (L.take k)) (hx : Rd S strV w5 kv [x]) (hd : Rd (fun b => b < B) strV w5 VD (L.drop k)) (hL : L.length ≤ 1000) (hB : B ≤ w5.heap.size) :
    ∃ v6 w6 v7 w7, AppS v30 kv w5 v6 w6 ∧ AppS v6 VD w6 v7 w7 ∧ OwnS B w7 v7 (L.take k ++ x :: L.drop k) ∧ Below B w5 w7 := by
  have hl1 : (L.take k).length ≤ 1000 := by rw [List.length_take]; omega
  have hl2 : (L.drop k).length ≤ 1000 := by rw [List.length_drop]; omega
  obtain ⟨v6, w6, r1, o6, g6⟩ := app_s h hx (by simp only [List.length_cons, List.length_nil]; omega) hB
  have b6 : Below B w5 w6 := (Below.refl B w5).grown g6 hB (fun j hj => (World.ownsRow.lt h j hj).1)
  have hd6 := hd.kp (Kp.lt b6)
  have hB6 : B ≤ w6.heap.size := Nat.le_trans hB b6.size
  obtain ⟨v7, w7, r2, o7, g7⟩ := app_s o6 hd6 (by rw [List.length_append]; simp only [List.length_cons, List.length_nil]; omega) hB6
  refine ⟨v6, w6, v7, w7, r1, r2, ?_, b6.grown g7 hB6 (fun j hj => (World.ownsRow.lt o6 j hj).1)⟩
  rw [List.append_assoc] at o7
  exact o7
abbrev mtS : Obj := .cells #[] ST1
abbrev oneS (x : Bts) : Obj := .cells #[.string ⟨x.toArray⟩] ST1
abbrev slS (b n : Nat) : Value := .slice (some ⟨b, 0, none⟩) n n
section
variable {w w1 : World} {k : Nat} {VT VD : Value} {L : List Bts} {x : Bts}
theorem own_mt (w : World) {B : Nat} (hB : B ≤ w.heap.size) : OwnS B (w.alloc mtS) (slS w.heap.size 0) [] := World.ownsRow_made (e := ST1) (size := 1) w #[] 0 hB (by unfold maxLen; omega) rfl
theorem rd_one (w : World) (x : Bts) : Rd (fun b => b = w.heap.size) strV (w.alloc (oneS x)) (slS w.heap.size 1) [x] := Rd.blk (f := strV) (show Blk ST1 w.heap.size (rowV strV [x]) (w.alloc (oneS x)) from Blk.made w) (by unfold maxLen; simp)
/-- Empty row, append, s, then the rest. -/
theorem ord1 (ht : Rd (fun b => b < w.heap.size) strV w VT (L.take k)) (hd : Rd (fun b => b < w.heap.size) strV w VD (L.drop k)) (hL : L.length ≤ 1000) :
    ∃ v4 w4 v6 w6 v7 w7, AppS (slS w.heap.size 0) VT (w.alloc mtS) v4 w4 ∧ AppS v4 (slS w4.heap.size 1) (w4.alloc (oneS x)) v6 w6 ∧ AppS v6 VD w6 v7 w7 ∧ OwnS w.heap.size w7 v7 (L.take k ++ x :: L.drop k) ∧ Below w.heap.size w w7 := by
  have b1 := alloc_bel w mtS
  have hB1 : w.heap.size ≤ (w.alloc mtS).heap.size := b1.size
  have o1 := own_mt w (Nat.le_refl _)
  obtain ⟨v4, w4, r4, o4, g4⟩ := app_s o1 (ht.below b1) (by rw [List.length_take]; simp only [List.length_nil]; omega) hB1
  have b4 : Below w.heap.size w w4 := b1.grown g4 hB1 (fun j hj => (World.ownsRow.lt o1 j hj).1)
  have b5 := alloc_bel w4 (oneS x)
  have b05 : Below w.heap.size w (w4.alloc (oneS x)) := b4.trans (b5.mono b4.size)
  have o5 : OwnS w.heap.size (w4.alloc (oneS x)) v4 (L.take k) := own_below o4 b5
  obtain ⟨v6, w6, v7, w7, r6, r7, o7, b7⟩ := ins_apps (x := x) o5 (rd_one w4 x) (hd.kp (Kp.lt b05)) hL b05.size
  exact ⟨v4, w4, v6, w6, v7, w7, r4, r6, r7, o7, b05.trans b7⟩
/-- Empty row, s, append, then the rest. -/
theorem ord2 (ht : Rd (fun b => b < w.heap.size) strV w VT (L.take k)) (hd : Rd (fun b => b < w.heap.size) strV w VD (L.drop k)) (hL : L.length ≤ 1000) :
    ∃ v4 w4 v6 w6 v7 w7, AppS (slS w.heap.size 0) VT ((w.alloc mtS).alloc (oneS x)) v4 w4 ∧ AppS v4 (slS (w.alloc mtS).heap.size 1) w4 v6 w6 ∧ AppS v6 VD w6 v7 w7 ∧ OwnS w.heap.size w7 v7 (L.take k ++ x :: L.drop k) ∧ Below w.heap.size w w7 := by
  have b1 := alloc_bel w mtS
  have b2 := alloc_bel (w.alloc mtS) (oneS x)
  have b02 : Below w.heap.size w ((w.alloc mtS).alloc (oneS x)) := b1.trans (b2.mono b1.size)
  have o2 : OwnS w.heap.size ((w.alloc mtS).alloc (oneS x)) (slS w.heap.size 0) [] := own_below (own_mt w (Nat.le_refl _)) b2
  obtain ⟨v4, w4, r4, o4, g4⟩ := app_s o2 (ht.below b02) (by rw [List.length_take]; simp only [List.length_nil]; omega) b02.size
  have b4 : Below w.heap.size w w4 := b02.grown g4 b02.size (fun j hj => (World.ownsRow.lt o2 j hj).1)
  have hx4 : Rd (fun b => b = (w.alloc mtS).heap.size) strV w4 (slS (w.alloc mtS).heap.size 1) [x] := (rd_one (w.alloc mtS) x).kp ⟨g4.size, fun b hb hl => g4.block b hl (fun e => by
    have e : some b = some w.heap.size := e
    cases e
    have : (w.alloc mtS).heap.size = w.heap.size + 1 := by simp
    omega)⟩
  obtain ⟨v6, w6, v7, w7, r6, r7, o7, b7⟩ := ins_apps (x := x) o4 hx4 (hd.kp (Kp.lt b4)) hL b4.size
  exact ⟨v4, w4, v6, w6, v7, w7, r4, r6, r7, o7, b4.trans b7⟩
/-- s, empty row, append, then the rest. -/
theorem ord3 (ht : Rd (fun b => b < w.heap.size) strV w VT (L.take k)) (hd : Rd (fun b => b < w.heap.size) strV w VD (L.drop k)) (hL : L.length ≤ 1000) :
    ∃ v4 w4 v6 w6 v7 w7, AppS (slS (w.alloc (oneS x)).heap.size 0) VT ((w.alloc (oneS x)).alloc mtS) v4 w4 ∧ AppS v4 (slS w.heap.size 1) w4 v6 w6 ∧ AppS v6 VD w6 v7 w7 ∧ OwnS w.heap.size w7 v7 (L.take k ++ x :: L.drop k) ∧ Below w.heap.size w w7 := by
  have b1 := alloc_bel w (oneS x)
  have b2 := alloc_bel (w.alloc (oneS x)) mtS
  have b02 : Below w.heap.size w ((w.alloc (oneS x)).alloc mtS) := b1.trans (b2.mono b1.size)
  have hsz : (w.alloc (oneS x)).heap.size = w.heap.size + 1 := by simp
  have o2 := own_mt (w.alloc (oneS x)) (B := w.heap.size) b1.size
  obtain ⟨v4, w4, r4, o4, g4⟩ := app_s o2 (ht.below b02) (by rw [List.length_take]; simp only [List.length_nil]; omega) b02.size
  have b4 : Below w.heap.size w w4 := b02.grown g4 b02.size (fun j hj => (World.ownsRow.lt o2 j hj).1)
  have hx4 : Rd (fun b => b = w.heap.size) strV w4 (slS w.heap.size 1) [x] := ((rd_one w x).below b2).kp ⟨g4.size, fun b hb hl => g4.block b hl (fun e => by
    have e : some b = some (w.alloc (oneS x)).heap.size := e
    cases e
    omega)⟩
  obtain ⟨v6, w6, v7, w7, r6, r7, o7, b7⟩ := ins_apps (x := x) o4 hx4 (hd.kp (Kp.lt b4)) hL b4.size
  exact ⟨v4, w4, v6, w6, v7, w7, r4, r6, r7, o7, b4.trans b7⟩
end
end Hp
end Go.Proofs.Ytojblndlchcjeaa
