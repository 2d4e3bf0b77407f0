/- Chapter 08: a town's list of objects: what an object's place gives; classes told one after another. No walk. -/
import Derived.Test.YtojblndlchcjeaaHpLu
set_option linter.unusedVariables false
namespace Go.Proofs.Ytojblndlchcjeaa
open Go.RowKit
open Go.Maps
namespace Hp
open Bs Sm
section
variable {B T sb root k : Nat} {w w' : World} {lv : Value} {vl : List OV} {L : List Ob} {o : Ob}
theorem vl_at (hL : vl.map (·.1) = L) (hk : L[k]? = some o) : ∃ x, vl[k]? = some x ∧ x.1 = o := by
  rw [← hL, List.getElem?_map] at hk
  obtain ⟨x, hx, e⟩ := Option.map_eq_some_iff.1 hk
  exact ⟨x, hx, e⟩
theorem Tw.g (h : Tw B T sb w lv vl root) {x : OV} (hx : vl[k]? = some x) : ∃ g lc, lv = .slice (some ⟨g, 0, none⟩) vl.length lc := by
  obtain ⟨a, c, rfl⟩ := h.row.form
  have hl := (List.getElem?_eq_some_iff.1 hx).1
  rcases h.row.2 with ⟨e, hn⟩ | ⟨g1, cap1, cur1, e, -⟩
  · injection e with e1 e2 e3
    omega
  · cases e
    exact ⟨g1, _, rfl⟩
theorem vl_ok (hL : vl.map (·.1) = L) (h : ∀ o ∈ L, okB o.hd = true) : ∀ x ∈ vl, okB x.1.hd = true := fun x hx => h x.1 (by rw [← hL]; exact List.mem_map.2 ⟨x, hx, rfl⟩)
/-! ### Classes -/
theorem key_setC (c : Nat) (P : List Nat) (l : List Ob) : (setC c P l).map keyO = l.map keyO := by
  unfold setC
  rw [List.map_map]
  refine List.map_congr_left fun o _ => ?_
  show keyO (if 2 * o.at_ ∈ P then { o with hd := { o.hd with cls := c } } else o) = keyO o
  split <;> rfl
theorem setC_get {c : Nat} {P : List Nat} {l : List Ob} (hk : l[k]? = some o) : (setC c P l)[k]? = some (if 2 * o.at_ ∈ P then { o with hd := { o.hd with cls := c } } else o) := by
  unfold setC
  rw [List.getElem?_map, hk]; rfl
theorem setC_nil (c : Nat) (l : List Ob) : setC c [] l = l := by
  unfold setC
  rw [show (fun o : Ob => if 2 * o.at_ ∈ ([] : List Nat) then { o with hd := { o.hd with cls := c } } else o) = id from funext fun o => by simp]
  exact List.map_id _
theorem ok_setC {c : Nat} {P : List Nat} {l : List Ob} (h1 : c ≠ 0) (h2 : c % 2 = 0) (h : ∀ o ∈ l, okB o.hd = true) : ∀ o ∈ setC c P l, okB o.hd = true := by
  intro o ho
  unfold setC at ho
  obtain ⟨x, hx, rfl⟩ := List.mem_map.1 ho
  have := h x hx
  split
  · rw [okB_iff] at this ⊢
    exact ⟨h1, h2, this.2.2⟩
  · exact this
/-- One more of them is told its class. -/
theorem setC_step {c wd : Nat} {P : List Nat} {l : List Ob} {a : Nat} {o' : Ob} (hc : Chain a l) (hk : l[k]? = some o) (hw : 2 * o.at_ = wd) (ho : (setC c P l)[k]? = some o') : (setC c P l).set k { o' with hd := { o'.hd with cls := c } } = setC c (P ++ [wd]) l := by
  apply List.ext_getElem?
  intro i
  have hl : (setC c P l).length = l.length := by unfold setC; simp
  by_cases e : k = i
  · subst e
    have hkl := (List.getElem?_eq_some_iff.1 hk).1
    rw [List.getElem?_set_self (by omega), setC_get hk]
    rw [setC_get hk] at ho
    rw [if_pos (by rw [← hw]; simp)]
    injection ho with ho
    rw [← ho]
    split <;> rfl
  · rw [List.getElem?_set_ne e]
    cases hi : l[i]? with
    | none => rw [List.getElem?_eq_none (by rw [hl]; exact List.getElem?_eq_none_iff.1 hi), List.getElem?_eq_none (by unfold setC; simp; exact List.getElem?_eq_none_iff.1 hi)]
    | some y =>
      rw [setC_get hi, setC_get hi]
      have hne : 2 * y.at_ ≠ wd := by
        intro h
        have h1 := idx_at hc hk
        have h2 := idx_at hc hi
        rw [show o.at_ * 2 = y.at_ * 2 by omega, h2] at h1
        cases h1
        exact e rfl
      have hm : (2 * y.at_ ∈ P ++ [wd]) = (2 * y.at_ ∈ P) := by simp [hne]
      simp only [hm]
/-! ### The town's functions, over a list of objects -/
def AddL (B T sb root a : Nat) (L : List Ob) (vl : List OV) (kind : Nat) (wv : Value) (ws : List Nat) (bs : List UInt8) (w : World) (e : Ending) (w' : World) : Prop :=
  ∃ lv' vl', e = .returned (.int .u64 ((2 * a : Nat) : Int)) ∧ Tw B T sb w' lv' vl' root ∧ vl'.map (·.1) = L ++ [⟨a, hdL 4 kind (if kind = 2 then bs.length else ws.length), ws, bs⟩] ∧ (∃ bv, vl' = vl ++ [(⟨a, hdL 4 kind (if kind = 2 then bs.length else ws.length), ws, bs⟩, wv, bv)]) ∧ Tf B (fun _ => False) w w'
theorem add_L {S : Nat → Prop} {a kind : Nat} {wv bv : Value} {ws : List Nat} {bs : List UInt8} (hw : Tw B T sb w lv vl root) (hL : vl.map (·.1) = L)
    (hc : Chain 2 L ∧ endL 2 L = a) (hok : ∀ o ∈ L, okB o.hd = true) (ha : a ≤ 100000) (hl : L.length ≤ 100000) (hws : OwnU B w wv ws) (hbs : Rd S byV w bv bs) (hsz : ws.length ≤ 1048576 ∧ bs.length ≤ 1048576) (hk : kind ≤ 2) (hB : B ≤ w.heap.size) :
    Calls Try.prog 39 #[.pointer (some ⟨T, 0, none⟩), .int .i64 (kind : Int), wv, bv] w (AddL B T sb root a L vl kind wv ws bs w) := by
  have hvl : vl.length = L.length := by rw [← hL, List.length_map]
  subst hL
  have h := add_any B T sb root kind vl lv wv bv ws bs w hw hc.1 (vl_ok rfl hok) (by rw [hc.2]; exact ha) (by omega) hws hbs hsz hk hB
  refine h.mono ?_
  rintro e w' ⟨lv', bv', rfl, h1, h2⟩
  refine ⟨lv', _, by rw [hc.2], h1, ?_, ⟨bv', ?_⟩, h2⟩
  · rw [List.map_append]; unfold addO; rw [hc.2]; rfl
  · unfold addO; rw [hc.2]
def ListL (B T sb root bl a : Nat) (L : List Ob) (lsv : Value) (LS : List Nat) (w : World) (e : Ending) (w' : World) : Prop :=
  ∃ lv' vl' lsv', e = .returned (.int .u64 ((2 * a : Nat) : Int)) ∧ Tw B T sb w' lv' vl' root ∧ vl'.map (·.1) = L ++ [rw4 (listO a [])] ∧ Blk BxU bl #[lsv'] w' ∧ OwnU B w' lsv' (LS ++ [2 * a]) ∧ LApt vl' lsv' ∧
    Tf B (fun b => b = bl ∨ lsv.ownBlock = some b) w w' ∧ (∀ b, lsv'.ownBlock = some b → lsv.ownBlock = some b ∨ w.heap.size ≤ b)
theorem list_L {bt bl a : Nat} {lsv : Value} {LS : List Nat} (hw : Tw B T sb w lv vl root) (hL : vl.map (·.1) = L) (hbt : Blk PTT bt #[.pointer (some ⟨T, 0, none⟩)] w) (hbl : Blk BxU bl #[lsv] w) (hls : OwnU B w lsv LS) (hap : LApt vl lsv) (hblB : B ≤ bl)
    (hc : Chain 2 L ∧ endL 2 L = a) (hok : ∀ o ∈ L, okB o.hd = true) (ha : a ≤ 100000) (hl : L.length ≤ 100000) (hLS : LS.length ≤ 100000) (hB : B ≤ w.heap.size) :
    Calls Try.prog 41 #[.pointer (some ⟨bt, 0, none⟩), .pointer (some ⟨bl, 0, none⟩)] w (ListL B T sb root bl a L lsv LS w) := by
  have hvl : vl.length = L.length := by rw [← hL, List.length_map]
  subst hL
  refine (list_any B T sb root bt bl vl lv lsv LS w hw hbt hbl hls hap hblB hc.1 (vl_ok rfl hok) (by rw [hc.2]; exact ha) (by omega) hLS hB).mono ?_
  rintro e w' ⟨lv', bv', lsv', rfl, h1, h2, h3, h4, h5⟩
  rw [hc.2] at h3
  refine ⟨lv', _, lsv', by rw [hc.2], h1, ?_, h2, h3, ?_, h4, h5⟩
  · rw [List.map_append]; unfold addO; rw [hc.2]; rfl
  · intro x hx b hb
    rcases List.mem_append.1 hx with hx | hx
    · intro e
      rcases h5 b e with h | h
      · exact hap x hx b hb h
      · have := (World.ownsRow.lt (hw.rds x hx).1 b hb).2
        omega
    · obtain rfl := List.mem_singleton.1 hx
      cases hb
def SymL (B T sb root n a : Nat) (L : List Ob) (vl : List OV) (f : Bts → Int) (g : Bts → Bool) (s : Bts) (w : World) (e : Ending) (w' : World) : Prop :=
  ∃ lv' vl', e = .returned (.int .u64 ((2 * a : Nat) : Int)) ∧ Tw B T sb w' lv' vl' root ∧ vl'.map (·.1) = L ++ [rw4 (symO a s)] ∧ (∀ lsv, LApt vl lsv → LApt vl' lsv) ∧
    SymM sb (n + 1) (fun x => if x = s then ((2 * a : Nat) : Int) else f x) (fun x => if x = s then true else g x) w' ∧ Tf B (fun b => b = sb) w w'
theorem sym_L {n a : Nat} {f : Bts → Int} {g : Bts → Bool} {s : Bts} (hw : Tw B T sb w lv vl root) (hL : vl.map (·.1) = L) (hm : SymM sb n f g w) (hf : f s = 0) (hsb : B ≤ sb) (hn : n ≤ 100000)
    (hc : Chain 2 L ∧ endL 2 L = a) (hok : ∀ o ∈ L, okB o.hd = true) (ha : a ≤ 100000) (hl : L.length ≤ 100000) (hs : s.length ≤ 100000) (hB : B ≤ w.heap.size) :
    Calls Try.prog 43 #[.pointer (some ⟨T, 0, none⟩), .string ⟨s.toArray⟩] w (SymL B T sb root n a L vl f g s w) := by
  have hvl : vl.length = L.length := by rw [← hL, List.length_map]
  subst hL
  refine (sym_new B T sb root n vl lv f g s w hw hm hf hsb hn hc.1 (vl_ok rfl hok) (by rw [hc.2]; exact ha) (by omega) hs hB).mono ?_
  rintro e w' ⟨lv', bv', rfl, h1, h2, h3⟩
  rw [hc.2] at h2
  refine ⟨lv', _, by rw [hc.2], h1, ?_, fun lsv hap x hx b hb => ?_, h2, h3⟩
  · rw [List.map_append]; unfold addO; rw [hc.2]; rfl
  · rcases List.mem_append.1 hx with hx | hx
    · exact hap x hx b hb
    · obtain rfl := List.mem_singleton.1 hx
      cases hb
theorem Sta.lists {w0 : World} {l : List Th} {bl : Nat} {lsv : Value} {LS : List Nat} {cs : Array Value} (h : Sta B w0 w l) (hf : Tf B (fun b => b = bl ∨ lsv.ownBlock = some b) w w') (hbl : Blk BxU bl cs w) (hls : OwnU B w lsv LS) (h1 : noT TT l = true) (h2 : noT OT l = true) (h3 : noT BxU l = true)
    (h4 : ∀ x ∈ l, x.ty = some UT → ∀ b, x.ft = some b → lsv.ownBlock ≠ some b) : Sta B w0 w' l :=
  h.tf hf h1 h2 fun x hx b hb h5 => by
    rcases h5 with rfl | h5
    · exact h.ne_cells h3 hx hbl hb
    · by_cases e : x.ty = some UT
      · exact h4 x hx e b hb h5
      · rcases hls.2 with ⟨e', hn⟩ | ⟨g1, cap1, cur1, e', k1, k2, -⟩
        · rw [e'] at h5; cases h5
        · rw [e'] at h5
          have h5 : some g1 = some b := h5
          cases h5
          obtain ⟨o, ho, h6, -⟩ := x.has w (h.2.2 x hx) b hb
          rw [k2] at ho
          cases ho
          exact e (h6 _ _ _ rfl)
end
end Hp
end Go.Proofs.Ytojblndlchcjeaa
