/- Script, the walk, 3: numbers. -/
import Derived.Test.YtaaknnmnkgnbjaaDoorScW2
set_option linter.unusedVariables false
namespace Go.Proofs.YtaaknnmnkgnbjaaDoor
open Go.RowKit
namespace Sc
open Bs Sm
abbrev IT : Nat := 3
def intV (n : Int) : Value := .int .i64 n
def Ints (B : Nat) (v : Value) (l : List Int) (w : World) : Prop := w.ownsRow B IT 1 v l.length (l.map intV)
theorem numsF_snoc (two : Bool) (x : Bytes) : ∀ (l : List Bytes) (i : Nat), numsF two i (l ++ [x]) = numsF two i l ++ [nOf x (lim two (i + l.length))]
  | [], i => rfl
  | y :: t, i => by
    rw [List.cons_append]
    show nOf y (lim two i) :: numsF two (i + 1) (t ++ [x]) = nOf y (lim two i) :: numsF two (i + 1) t ++ _
    rw [numsF_snoc two x t (i + 1), List.length_cons, show i + 1 + t.length = i + (t.length + 1) by omega]; rfl
theorem worstF_snoc (two : Bool) (x : Bytes) : ∀ (l : List Bytes) (i : Nat) (e : Int), worstF two i (l ++ [x]) e = if eOf x (lim two (i + l.length)) = 3 ∨ worstF two i l e = 0 then eOf x (lim two (i + l.length)) else worstF two i l e
  | [], i, e => rfl
  | y :: t, i, e => by
    rw [List.cons_append]
    show worstF two (i + 1) (t ++ [x]) _ = _
    rw [worstF_snoc two x t (i + 1), List.length_cons, show i + 1 + t.length = i + (t.length + 1) by omega]; rfl
theorem take_snoc {α : Type} {l : List α} {k : Nat} {x : α} (h : l[k]? = some x) : l.take (k + 1) = l.take k ++ [x] := by
  rw [List.take_add_one, h]; rfl
theorem cells1 (W : World) (T : TypeId) (v0 : Value) : ∀ j u, [v0][j]? = some u → (W.alloc (.cells #[v0] T)).cell? ((⟨W.heap.size, 0, none⟩ : Addr).add j) = some u := by
  intro j u hj
  match j, hj with
  | 0, hj => simp at hj; subst hj; simp [Addr.add]
  | n + 1, hj => simp at hj
/-- The limits: one, or two. -/
def LimAt (w : World) (v : Value) (two : Bool) : Prop :=
  ∃ g, g < w.heap.size ∧ w.cell? ⟨g, 0, none⟩ = some (.int .i64 16777216) ∧ match two with
    | true => v = .slice (some ⟨g, 0, none⟩) 2 2 ∧ w.cell? ⟨g, 1, none⟩ = some (.int .i64 255)
    | false => v = .slice (some ⟨g, 0, none⟩) 1 1
set_option maxRecDepth 100000 in
set_option maxHeartbeats 3200000 in
theorem numbers_any (wv lv : Value) (two : Bool) (l : List Bytes) (w : World) (hw : StAt w wv l) (hlim : LimAt w lv two) (hsz : ∀ x ∈ l, x ≠ [] ∧ x.length ≤ 65536) (hn : l.length ≤ 65536) (hev : ErrVar w) (hp : Pow10 w) :
    Calls Tryd.prog 22 #[wv, lv] w (fun e w' => Below w.heap.size w w' ∧ ∃ v, e = .returned (.tuple #[v, .int .i64 (worstF two 0 l 0)]) ∧ Ints w.heap.size v (numsF two 0 l) w') := by
  obtain ⟨i0, hi, hz0, hz1, hz2⟩ := info_parts (show (Tryd.prog.info? IT).map (fun i => (i.zero, i.size, i.bytes)) = some (some (.int .i64 0), 1, 8) by kernel_rfl)
  have tsl : Tryd.prog.underlying 26 = some (.slice IT) := by kernel_rfl
  obtain ⟨ao, cap, rfl, hcap, hcells⟩ := hw
  obtain ⟨n, hnn⟩ : ∃ n, l.length = n := ⟨_, rfl⟩
  rw [hnn] at hcap hcells hn ⊢
  have HN := Lib.hid hnn
  have HSZ := Lib.hid hsz
  have HEV := Lib.hid hev
  have HP := Lib.hid hp
  clear hnn hsz hev hp
  obtain ⟨lg, hlg, l0, hl1⟩ := hlim
  obtain ⟨ln, hln⟩ : ∃ ln : Nat, lv = .slice (some ⟨lg, 0, none⟩) ln ln ∧ ((two = false ∧ ln = 1) ∨ (two = true ∧ ln = 2 ∧ w.cell? ⟨lg, 1, none⟩ = some (.int .i64 255))) := by
    cases two with
    | true => exact ⟨2, hl1.1, .inr ⟨rfl, rfl, hl1.2⟩⟩
    | false => exact ⟨1, hl1, .inl ⟨rfl, rfl⟩⟩
  obtain ⟨rfl, hln⟩ := hln
  have HLN := Lib.hid hln
  have hln1 : 1 ≤ ln ∧ ln ≤ 2 := by rcases hln with ⟨_, rfl⟩ | ⟨_, rfl, _⟩ <;> omega
  clear hl1 hln
  have hlw : IntKind.i64.wrap ((ln : Int) - 1) = (ln : Int) - 1 := IntWalk.i64_in _ (by omega)
  go_enter Tryd.func22, Tryd.ntmps22
  go_wp2_with fail
  go_loopw [6, 7, 14] (fun v e y wr => ∃ (k : Nat) (q : Int), y = .int .i64 (k : Int) ∧ k ≤ n ∧ e = .int .i64 q ∧ Hid (worstF two 0 (l.take k) 0 = q) ∧ Hid (Ints w.heap.size v (numsF two 0 (l.take k)) wr) ∧ Below w.heap.size w wr) (fun _ _ y _ => n - (intOf y).toNat)
  case atStart => exact ⟨0, 0, rfl, Nat.zero_le _, rfl, Lib.hid (by rw [List.take_zero]; rfl), Lib.hid (by rw [List.take_zero]; exact World.ownsRow_nil _ _ _ _), Below.refl _ _⟩
  case round =>
    obtain ⟨k, q, rfl, hk, rfl, hq, hown, hbr⟩ := hrel
    by_cases hkn : k < n
    · have hdec : decide ((k : Int) < (n : Int)) = true := by simpa using hkn
      have hkw : IntKind.i64.wrap ((k : Int) + 1) = (k : Int) + 1 := IntWalk.i64_in _ (by omega)
      obtain ⟨wb, off, rfl, hwb, hcm, hcc⟩ := hcells (by omega)
      obtain ⟨x, hx⟩ : ∃ x, l[k]? = some x := ⟨_, List.getElem?_eq_getElem (by rw [HN.out]; exact hkn)⟩
      obtain ⟨hxne, hxs⟩ := HSZ.out x (List.mem_of_getElem? hx)
      have c0 := (hbr.cell (p := ⟨wb, off + k, none⟩) hwb).trans (hcc k x hx)
      obtain ⟨X, hX⟩ : ∃ X : ByteArray, (⟨x.toArray⟩ : ByteArray) = X := ⟨_, rfl⟩
      have hXl : X.data.toList = x := by rw [← hX]
      rw [show strV x = .string X by rw [← hX]; rfl] at c0
      have hXs : X.size ≤ 65536 := by show X.data.toList.length ≤ _; rw [hXl]; exact hxs
      have hX0 : 0 < X.size := by
        rcases Nat.eq_zero_or_pos X.size with h0 | h0
        · exact absurd (by rw [← hXl]; exact List.eq_nil_of_length_eq_zero h0) hxne
        · exact h0
      have hjc : w.cell? ⟨lg, (min (k : Int) ((ln : Int) - 1)).toNat, none⟩ = some (.int .i64 (lim two k)) := by
        rcases HLN.out with ⟨rfl, rfl⟩ | ⟨rfl, rfl, h1⟩
        · rw [show (min (k : Int) (((1 : Nat) : Int) - 1)).toNat = 0 by omega, l0]; rfl
        · by_cases hk0 : k = 0
          · subst hk0; rw [show (min ((0 : Nat) : Int) (((2 : Nat) : Int) - 1)).toNat = 0 by omega, l0]; rfl
          · rw [show (min (k : Int) (((2 : Nat) : Int) - 1)).toNat = 1 by omega, h1]; unfold lim; simp [hk0]
      have j0 := (hbr.cell (p := ⟨lg, (min (k : Int) ((ln : Int) - 1)).toNat, none⟩) hlg).trans hjc
      obtain ⟨L, hL⟩ : ∃ L, lim two k = L := ⟨_, rfl⟩
      have hN := fun v (he : ErrVar v) (hp : Pow10 v) => number_any X L v hXs hX0 he hp
      have hq1 := worstF_snoc two x (l.take k) 0 0
      have hn1 := numsF_snoc two x (l.take k) 0
      rw [← take_snoc hx, List.length_take, HN.out, Nat.min_eq_left (by omega), Nat.zero_add, hL] at hq1 hn1
      rw [hL] at j0
      rw [hXl] at hN
      rw [hq.out] at hq1
      obtain ⟨ex, hex⟩ : ∃ e, eOf x L = e := ⟨_, rfl⟩
      obtain ⟨nx, hnx⟩ : ∃ e, nOf x L = e := ⟨_, rfl⟩
      rw [hex] at hN hq1
      rw [hnx] at hN hn1
      have HNX := Lib.hid hN
      have HQ1 := Lib.hid hq1
      have HN1 := Lib.hid hn1
      clear hx hxne hxs hX hXl hXs hX0 hjc hL hN hq1 hn1 hex hnx hcc hq
      go_wp2_with fail
      refine (HNX.out _ (HEV.out.below hbr) (HP.out.below hbr)).mono ?_; rintro e w3 ⟨rfl, hb3⟩
      have hbr3 := hbr.trans (hb3.mono hbr.size)
      have HO3 := own_below hown.out hb3
      have hnl : (numsF two 0 (l.take k)).length ≤ 65536 := by rw [numsF_len, List.length_take]; omega
      obtain ⟨r, hr⟩ : ∃ r, numsF two 0 (l.take k) = r := ⟨_, rfl⟩
      rw [hr] at HO3 hnl HN1
      clear hr hown hb3 hbr HNX c0 j0
      obtain ⟨q', hq', hb⟩ : ∃ q', worstF two 0 (l.take (k + 1)) 0 = q' ∧ ((ex = 3 ∧ q' = ex) ∨ (ex ≠ 3 ∧ q = 0 ∧ q' = ex) ∨ (ex ≠ 3 ∧ q ≠ 0 ∧ q' = q)) := by
        refine ⟨_, HQ1.out, ?_⟩
        by_cases h1 : ex = 3
        · exact .inl ⟨h1, by rw [if_pos (.inl h1)]⟩
        · by_cases h2 : q = 0
          · exact .inr (.inl ⟨h1, h2, by rw [if_pos (.inr h2)]⟩)
          · exact .inr (.inr ⟨h1, h2, by rw [if_neg (by simp [h1, h2])]⟩)
      have HQ' := Lib.hid hq'
      clear hq' HQ1
      have hb' : (ex == 3) = true ∧ q' = ex ∨ (ex == 3) = false ∧ (q == 0) = true ∧ q' = ex ∨ (ex == 3) = false ∧ (q == 0) = false ∧ q' = q := by simpa using hb
      clear hb
      rcases hb' with ⟨h1, rfl⟩ | ⟨h1, h2, rfl⟩ | ⟨h1, h2, rfl⟩
      all_goals
        go_wp2_with (at_builtin; refine wpList_append_own _ rfl _ _ 26 rfl w.heap.size IT i0 (.int .i64 0) 1 8 tsl hi hz0 hz1 hz2 rfl (by decide) _ r.length _ rfl (HO3.alloc _) ⟨w3.heap.size, 0, none⟩ 1 1 [.int .i64 nx] rfl rfl ?c1 ?c2 ?c3 ?c4 ?c5 ?_)
        case c1 => exact cells1 _ _ _
        case c2 => intro u hu; simp at hu; subst hu; rfl
        case c3 => unfold maxLen; omega
        case c4 => omega
        case c5 => have := hbr3.size; simp; omega
        intro v6 w6 hown6 hg6 _
        have hoX := HO3.alloc (.cells #[.int .i64 nx] IT)
        have hbX : Below w.heap.size w (w3.alloc (.cells #[.int .i64 nx] IT)) := hbr3.alloc hbr3.size _
        have hb6 := hbX.grown hg6 hbX.size (fun k hk => (hoX.lt k hk).1)
        have HO : Hid (Ints w.heap.size v6 (numsF two 0 (l.take (k + 1))) w6) := Lib.hid (by
          unfold Ints
          rw [HN1.out, List.length_append, List.map_append]
          exact hown6)
        clear hown6 hg6 hoX hbX
        go_wp2_with fail
        exact ⟨⟨k + 1, _, by simp, by omega, rfl, HQ', HO, hb6⟩, by simp only [intOf]; omega⟩
    · obtain rfl : k = n := by omega
      have hdec : decide ((k : Int) < (k : Int)) = false := by simp
      have hall : l.take k = l := List.take_of_length_le (by rw [HN.out]; exact Nat.le_refl _)
      rw [hall] at hown hq
      have HQ := hq
      clear hall hq
      go_wp2_with fail
      go_ret2
      rw [HQ.out]
      exact ⟨hbr, _, rfl, hown.out⟩
end Sc
end Go.Proofs.YtaaknnmnkgnbjaaDoor
