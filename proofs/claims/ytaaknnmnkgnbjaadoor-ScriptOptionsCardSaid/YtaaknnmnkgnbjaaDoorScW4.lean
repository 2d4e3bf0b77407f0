/- Script, the walk, 4: bytes. -/
import Derived.Test.YtaaknnmnkgnbjaaDoorScW3
set_option linter.unusedVariables false
namespace Go.Proofs.YtaaknnmnkgnbjaaDoor
open Go.RowKit
namespace Sc
open Bs Sm
abbrev U8 : Nat := 5
def byteV (c : UInt8) : Value := .int .u8 (c.toNat : Int)
def Byts (B : Nat) (v : Value) (l : Bytes) (w : World) : Prop := w.ownsRow B U8 1 v l.length (l.map byteV)
def both (p q : Option Bytes) : Option Bytes := match p with
  | none => none
  | some x => q.map (fun r => x ++ r)
def glueB (acc : Bytes) (q : Option Bytes) : Option Bytes := q.map (fun r => acc ++ r)
theorem bytesR_cons (w : Bytes) (t : List Bytes) : bytesR (w :: t) = both (pairsR w) (bytesR t) := by
  conv => lhs; unfold bytesR
  unfold both; cases pairsR w <;> rfl
theorem pairsR_odd : ∀ (l : Bytes), l.length % 2 = 1 → pairsR l = none
  | [], h => by simp at h
  | [_], _ => rfl
  | a :: b :: t, h => by
    unfold pairsR
    rw [pairsR_odd t (by simp at h; omega)]
    cases hexd a <;> cases hexd b <;> rfl
theorem pairs_cons (a b : UInt8) (t : Bytes) : pairsR (a :: b :: t) = match hexd a, hexd b with
    | some x, some y => (pairsR t).map (fun r => UInt8.ofNat (16 * x + y) :: r)
    | _, _ => none := rfl
theorem both_none (q : Option Bytes) : both none q = none := rfl
theorem both_nil (q : Option Bytes) : both (some []) q = q := by cases q <;> rfl
theorem glue_step (acc : Bytes) (c : UInt8) (p q : Option Bytes) : glueB acc (both (p.map (fun r => c :: r)) q) = glueB (acc ++ [c]) (both p q) := by
  cases p <;> cases q <;> simp [glueB, both]
theorem glue_nil (q : Option Bytes) : glueB [] q = q := by cases q <;> rfl
theorem glue_none (acc : Bytes) : glueB acc none = none := rfl
theorem or16 (a b : Nat) (ha : a < 16) (hb : b < 16) : bits .or .i64 ((a : Int) * 16) (b : Int) % 256 = ((16 * a + b : Nat) : Int) := by
  have h : ∀ a : Fin 16, ∀ b : Fin 16, bits .or .i64 ((a.val : Int) * 16) (b.val : Int) % 256 = ((16 * a.val + b.val : Nat) : Int) := by decide
  exact h ⟨a, ha⟩ ⟨b, hb⟩
/-- What bytes hands back. -/
def Hexed (x : Option Bytes) (w : World) (e : Ending) (w' : World) : Prop :=
  Below w.heap.size w w' ∧ match x with
  | none => e = .returned (.tuple #[.slice none 0 0, .bool false])
  | some b => ∃ v, e = .returned (.tuple #[v, .bool true]) ∧ Byts w.heap.size v b w'
theorem hexd_cases (c : UInt8) : (Lib.indexByte digitsL c = -1 ∧ hexd c = none) ∨ ∃ h : Nat, Lib.indexByte digitsL c = (h : Int) ∧ hexd c = some h ∧ h < 16 := by
  have hge := Lib.indexByte_ge digitsL c
  unfold hexd
  by_cases h : 0 ≤ Lib.indexByte digitsL c
  · obtain ⟨n, hn⟩ : ∃ n : Nat, Lib.indexByte digitsL c = n := ⟨(Lib.indexByte digitsL c).toNat, by omega⟩
    refine .inr ⟨n, hn, by rw [if_pos h, hn]; rfl, ?_⟩
    have h1 := (Lib.indexByte_some hn).1
    exact (List.getElem?_eq_some_iff.1 h1).1
  · exact .inl ⟨by omega, by rw [if_neg h]⟩
theorem index_any (c : UInt8) (w : World) : Calls Tryd.prog 27 #[.string ⟨#[48, 49, 50, 51, 52, 53, 54, 55, 56, 57, 97, 98, 99, 100, 101, 102]⟩, .int .u8 (c.toNat : Int)] w (Done (.int .i64 (Lib.indexByte digitsL c)) w) := by
  have := Tryd.strings_IndexByte ⟨#[48, 49, 50, 51, 52, 53, 54, 55, 56, 57, 97, 98, 99, 100, 101, 102]⟩ (c.toNat : Int) w
  have e : ((c.toNat : Int)).toNat.toUInt8 = c := by simp
  rw [e] at this
  exact this.mono fun _ _ ⟨h1, h2⟩ => ⟨h1, h2.symm⟩
set_option maxRecDepth 100000 in
set_option maxHeartbeats 3200000 in
theorem bytes_any (wv : Value) (l : List Bytes) (w : World) (hw : StAt w wv l) (hsz : ∀ x ∈ l, x.length ≤ 65536) (hn : l.length ≤ 65536) :
    Calls Tryd.prog 21 #[wv] w (Hexed (bytesR l) w) := by
  obtain ⟨i0, hi, hz0, hz1, hz2⟩ := info_parts (show (Tryd.prog.info? U8).map (fun i => (i.zero, i.size, i.bytes)) = some (some (.int .u8 0), 1, 1) by kernel_rfl)
  have tsl : Tryd.prog.underlying 25 = some (.slice U8) := by kernel_rfl
  obtain ⟨ao, cap, rfl, hcap, hcells⟩ := hw
  obtain ⟨E, hE⟩ : ∃ E, bytesR l = E := ⟨_, rfl⟩
  obtain ⟨n, hnn⟩ : ∃ n, l.length = n := ⟨_, rfl⟩
  rw [hnn] at hcap hcells hn ⊢
  rw [hE]
  have HN := Lib.hid hnn
  have HSZ := Lib.hid hsz
  have HE0 : Hid (glueB [] (bytesR (l.drop 0)) = E) := Lib.hid (by rw [List.drop_zero, glue_nil]; exact hE)
  clear hnn hsz hE
  go_enter Tryd.func21, Tryd.ntmps21
  go_wp2_with fail
  go_loopw [4, 12] (fun v y wr => ∃ (k : Nat) (acc : Bytes), y = .int .i64 (k : Int) ∧ k ≤ n ∧ acc.length ≤ k * 65536 ∧ Hid (glueB acc (bytesR (l.drop k)) = E) ∧ Hid (Byts w.heap.size v acc wr) ∧ Below w.heap.size w wr) (fun _ y _ => n - (intOf y).toNat)
  case atStart => exact ⟨0, [], rfl, Nat.zero_le _, by simp, HE0, Lib.hid (World.ownsRow_nil _ _ _ _), Below.refl _ _⟩
  case round =>
    obtain ⟨k, acc, rfl, hk, hacc, hq, hown, hbr⟩ := hrel
    by_cases hkn : k < n
    · have hdec : decide ((k : Int) < (n : Int)) = true := by simpa using hkn
      have hkw : IntKind.i64.wrap ((k : Int) + 1) = (k : Int) + 1 := IntWalk.i64_in _ (by omega)
      obtain ⟨wb, off, rfl, hwb, hcm, hcc⟩ := hcells (by omega)
      obtain ⟨x, hx⟩ : ∃ x, l[k]? = some x := ⟨_, List.getElem?_eq_getElem (by rw [HN.out]; exact hkn)⟩
      have hxs := HSZ.out x (List.mem_of_getElem? hx)
      have c0 := (hbr.cell (p := ⟨wb, off + k, none⟩) hwb).trans (hcc k x hx)
      obtain ⟨X, hX⟩ : ∃ X : ByteArray, (⟨x.toArray⟩ : ByteArray) = X := ⟨_, rfl⟩
      have hXl : X.data.toList = x := by rw [← hX]
      rw [show strV x = .string X by rw [← hX]; rfl] at c0
      have hXn : x.length = X.size := by rw [← hXl]; rfl
      have hq := hq.out
      rw [List.drop_eq_getElem_cons (by rw [HN.out]; exact hkn), show l[k]'(by rw [HN.out]; exact hkn) = x by rw [List.getElem?_eq_getElem (by rw [HN.out]; exact hkn)] at hx; exact Option.some.inj hx, bytesR_cons] at hq
      obtain ⟨rest, hrest⟩ : ∃ r, bytesR (l.drop (k + 1)) = r := ⟨_, rfl⟩
      rw [hrest] at hq
      have HREST := Lib.hid hrest
      have HXL := Lib.hid hXl
      have hX6 : X.size ≤ 65536 := by omega
      by_cases hodd : X.size % 2 = 1
      · have hE : E = none := by rw [← hq, pairsR_odd x (by omega)]; rfl
        have HE := Lib.hid hE
        have hm : ((X.size : Int) % 2 != 0) = true := by
          have : (X.size : Int) % 2 = 1 := by omega
          rw [this]; rfl
        clear hX hXl hq hrest hE hcc hx hxs HE0
        go_wp2_with fail
        go_ret2
        rw [HE.out]
        exact ⟨hbr, rfl⟩
      · have hm : ((X.size : Int) % 2 != 0) = false := by
          have : (X.size : Int) % 2 = 0 := by omega
          rw [this]; rfl
        have HQ : Hid (glueB acc (both (pairsR (X.data.toList.drop 0)) rest) = E) := Lib.hid (by rw [List.drop_zero, hXl]; exact hq)
        have hev : X.size % 2 = 0 := by omega
        clear hX hXl hq hrest hcc hx hxs HE0 hodd hXn
        go_wp2_with fail
        go_loopw [4, 7] (fun v y wx => ∃ (i : Nat) (ac : Bytes), y = .int .i64 (i : Int) ∧ i ≤ X.size ∧ i % 2 = 0 ∧ ac.length ≤ k * 65536 + i ∧ Hid (glueB ac (both (pairsR (X.data.toList.drop i)) rest) = E) ∧ Hid (Byts w.heap.size v ac wx) ∧ Below w.heap.size w wx) (fun _ y _ => X.size - (intOf y).toNat)
        case atStart => exact ⟨0, acc, rfl, Nat.zero_le _, Nat.zero_mod 2, by rw [Nat.add_zero]; exact hacc, HQ, hown, hbr⟩
        case round =>
          obtain ⟨i, ac, rfl, hi0, hi2, hac, hq, hown, hbx⟩ := hrel
          by_cases hin : i < X.size
          · have hdeci : decide ((i : Int) < (X.size : Int)) = true := by simpa using hin
            have hi1 : i + 1 < X.size := by omega
            have hw1 : IntKind.i64.wrap ((i : Int) + 1) = ((i + 1 : Nat) : Int) := by rw [show ((i : Int) + 1) = ((i + 1 : Nat) : Int) by omega]; exact IntWalk.i64_in _ (by omega)
            have hw2 : IntKind.i64.wrap ((i : Int) + 2) = ((i + 2 : Nat) : Int) := by rw [show ((i : Int) + 2) = ((i + 2 : Nat) : Int) by omega]; exact IntWalk.i64_in _ (by omega)
            have hd : X.data.toList.drop i = X[i] :: X[i + 1] :: X.data.toList.drop (i + 2) := by
              rw [List.drop_eq_getElem_cons (show i < X.data.toList.length from hin), List.drop_eq_getElem_cons (show i + 1 < X.data.toList.length from hi1)]; rfl
            have hq := hq.out
            rw [hd] at hq
            clear hd
            go_wp2_with fail
            have hi1z : (i : Int) + 1 < (X.size : Int) := by omega
            have hi0z : (0 : Int) ≤ (i : Int) + 1 := by omega
            obtain ⟨ca, hca⟩ : ∃ c, X[i] = c := ⟨_, rfl⟩
            obtain ⟨cb, hcb⟩ : ∃ c, X[i + 1] = c := ⟨_, rfl⟩
            refine wp_region_noPanic ?_
            refine Hd.start (fun _ => True) (by kernel_rfl) trivial (fun hH0 => ?_)
            refine Hd.take 0 2 (oi := ?_) (v := ?_) ?_ (by kernel_rfl) (fun _ _ _ h => h) hH0 ?_ ?_ ?_
            rotate_left 2
            · simp only [List.getElem?_toArray, List.getElem?_cons_zero]
              exact rfl
            · rfl
            · intro w hSw
              (try dsimp only at hSw)
              go_simp
              try with_reducible rfl
            try simp only [Act.put, List.setIfInBounds_toArray, List.set_cons_zero, List.set_cons_succ]
            refine Hd.take 1 2 (oi := ?_) (v := ?_) ?_ (by kernel_rfl) (fun _ _ _ h => h) hH0 ?_ ?_ ?_
            rotate_left 2
            · simp only [List.getElem?_toArray, List.getElem?_cons_succ, List.getElem?_cons_zero]
              exact rfl
            · rfl
            · intro w hSw
              (try dsimp only at hSw)
              go_simp
              try with_reducible rfl
            try simp only [Act.put, List.setIfInBounds_toArray, List.set_cons_zero, List.set_cons_succ]
            refine Hd.take 2 3 (oi := ?_) (v := ?_) ?_ (by kernel_rfl) (fun _ _ _ h => h) hH0 ?_ ?_ ?_
            rotate_left 2
            · simp only [List.getElem?_toArray, List.getElem?_cons_succ, List.getElem?_cons_zero]
              exact rfl
            · rfl
            · intro w hSw
              (try dsimp only at hSw)
              go_simp
              try with_reducible rfl
            try simp only [Act.put, List.setIfInBounds_toArray, List.set_cons_zero, List.set_cons_succ]
            refine Hd.take 4 7 (oi := ?_) (v := ?_) ?_ (by kernel_rfl) (fun _ _ _ h => h) hH0 ?_ ?_ ?_
            rotate_left 2
            · simp only [List.getElem?_toArray, List.getElem?_cons_succ, List.getElem?_cons_zero]
              exact rfl
            · rfl
            · intro w hSw
              (try dsimp only at hSw)
              go_simp
              try with_reducible rfl
            try simp only [Act.put, List.setIfInBounds_toArray, List.set_cons_zero, List.set_cons_succ]
            refine Hd.take 5 6 (oi := ?_) (v := ?_) ?_ (by kernel_rfl) (fun _ _ _ h => h) hH0 ?_ ?_ ?_
            rotate_left 2
            · simp only [List.getElem?_toArray, List.getElem?_cons_succ, List.getElem?_cons_zero]
              exact rfl
            · rfl
            · intro w hSw
              (try dsimp only at hSw)
              go_simp
              try with_reducible rfl
            try simp only [Act.put, List.setIfInBounds_toArray, List.set_cons_zero, List.set_cons_succ]
            refine Hd.take 6 7 (oi := ?_) (v := ?_) ?_ (by kernel_rfl) (fun _ _ _ h => h) hH0 ?_ ?_ ?_
            rotate_left 2
            · simp only [List.getElem?_toArray, List.getElem?_cons_succ, List.getElem?_cons_zero]
              exact rfl
            · rfl
            · intro w hSw
              (try dsimp only at hSw)
              go_simp
              try with_reducible rfl
            try simp only [Act.put, List.setIfInBounds_toArray, List.set_cons_zero, List.set_cons_succ]
            refine Hd.take 7 8 (oi := ?_) (v := ?_) ?_ (by kernel_rfl) (fun _ _ _ h => h) hH0 ?_ ?_ ?_
            rotate_left 2
            · simp only [List.getElem?_toArray, List.getElem?_cons_succ, List.getElem?_cons_zero]
              exact rfl
            · rfl
            · intro w hSw
              (try dsimp only at hSw)
              go_simp
              try with_reducible rfl
            try simp only [Act.put, List.setIfInBounds_toArray, List.set_cons_zero, List.set_cons_succ]
            refine Hd.one 3 3 (o := ?_) ?_ (by kernel_rfl) (fun K hK => ?_)
            rotate_left 1
            · simp only [List.getElem?_toArray, List.getElem?_cons_succ, List.getElem?_cons_zero]
              exact rfl
            go_simp
            refine (index_any _ _).mono ?_; rintro e w' ⟨rfl, rfl⟩
            go_wp2_with fail
            refine hK.out _ _ trivial (fun hH1 => ?_)
            clear hK K
            try simp only [Act.put, List.setIfInBounds_toArray, List.set_cons_zero, List.set_cons_succ]
            refine Hd.one 8 8 (o := ?_) ?_ (by kernel_rfl) (fun K hK => ?_)
            rotate_left 1
            · simp only [List.getElem?_toArray, List.getElem?_cons_succ, List.getElem?_cons_zero]
              exact rfl
            go_simp
            refine (index_any _ _).mono ?_; rintro e w' ⟨rfl, rfl⟩
            go_wp2_with fail
            refine hK.out _ _ trivial (fun hH2 => ?_)
            clear hK K
            try simp only [Act.put, List.setIfInBounds_toArray, List.set_cons_zero, List.set_cons_succ]
            refine Hd.take 9 10 (oi := ?_) (v := ?_) ?_ (by kernel_rfl) (fun _ _ _ h => h) hH2 ?_ ?_ ?_
            rotate_left 2
            · simp only [List.getElem?_toArray, List.getElem?_cons_succ, List.getElem?_cons_zero]
              exact rfl
            · rfl
            · intro w hSw
              (try dsimp only at hSw)
              go_simp
              try with_reducible rfl
            try simp only [Act.put, List.setIfInBounds_toArray, List.set_cons_zero, List.set_cons_succ]
            refine Hd.last 10 (o := ?_) ?_ (by kernel_rfl) (by kernel_rfl) (by kernel_rfl) (fun K hK => ?_)
            rotate_left 1
            · simp only [List.getElem?_toArray, List.getElem?_cons_succ, List.getElem?_cons_zero]
              exact rfl
            go_simp
            refine hK.out _ _ ?_
            clear hK K
            try simp only [Act.put, List.setIfInBounds_toArray, List.set_cons_zero, List.set_cons_succ]
            simp only [NoPanic]
            rw [hca, hcb] at hq
            have hbx' := hbx.drew
            have hown' : Hid (Byts w.heap.size _ ac wr.drew) := hown
            obtain ⟨Wd, hWd⟩ : ∃ Wd, wr.drew = Wd := ⟨_, rfl⟩
            rw [hWd] at hbx' hown' ⊢
            clear hWd hown hH0 hH1 hH2 hca hcb
            rcases hexd_cases ca with ⟨a1, a2⟩ | ⟨ha, a1, a2, a3⟩
            · have hE : E = none := by rw [← hq, pairs_cons, a2]; rfl
              have HE := Lib.hid hE
              rw [a1]
              clear hE hq a1 a2
              go_wp2_with fail
              go_ret2
              rw [HE.out]
              exact ⟨hbx', rfl⟩
            · rcases hexd_cases cb with ⟨b1, b2⟩ | ⟨hb, b1, b2, b3⟩
              · have hE : E = none := by rw [← hq, pairs_cons, a2, b2]; rfl
                have HE := Lib.hid hE
                have ha0 : (0 : Int) ≤ (ha : Int) := by omega
                rw [a1, b1]
                clear hE hq a1 a2 b1 b2
                go_wp2_with fail
                go_ret2
                rw [HE.out]
                exact ⟨hbx', rfl⟩
              · rw [pairs_cons, a2, b2] at hq
                have HQ2 : Hid (glueB (ac ++ [UInt8.ofNat (16 * ha + hb)]) (both (pairsR (X.data.toList.drop (i + 2))) rest) = E) := Lib.hid (by rw [← glue_step]; exact hq)
                have ha0 : (0 : Int) ≤ (ha : Int) := by omega
                have hb0 : (0 : Int) ≤ (hb : Int) := by omega
                rw [a1, b1]
                clear hq a1 a2 b1 b2
                have hor := or16 ha hb a3 b3
                have hown2 := hown'.out
                unfold Byts at hown2
                have hacl : ac.length ≤ 4295032832 := by omega
                have HA2 := Lib.hid hac
                clear hac hown'
                go_wp2_with (at_builtin; refine wpList_append_own _ rfl _ _ 25 rfl w.heap.size U8 i0 (.int .u8 0) 1 1 tsl hi hz0 hz1 hz2 rfl (by decide) _ ac.length _ rfl (hown2.alloc _) ⟨Wd.heap.size, 0, none⟩ 1 1 [.int .u8 ((16 * ha + hb : Nat) : Int)] rfl rfl ?c1 ?c2 ?c3 ?c4 ?c5 ?_)
                case c1 => have := cells1 Wd U8 (.int .u8 ((16 * ha + hb : Nat) : Int)); simpa using this
                case c2 => intro u hu; simp at hu; subst hu; rfl
                case c3 => unfold maxLen; omega
                case c4 => omega
                case c5 => have := hbx'.size; simp; omega
                intro v6 w6 hown6 hg6 _
                have hoX := hown2.alloc (.cells #[.int .u8 ((16 * ha + hb : Nat) : Int)] U8)
                have hbX : Below w.heap.size w (Wd.alloc (.cells #[.int .u8 ((16 * ha + hb : Nat) : Int)] U8)) := hbx'.alloc hbx'.size _
                have hb6 := hbX.grown hg6 hbX.size (fun k hk => (hoX.lt k hk).1)
                have HO : Hid (Byts w.heap.size v6 (ac ++ [UInt8.ofNat (16 * ha + hb)]) w6) := Lib.hid (by
                  unfold Byts
                  rw [List.length_append, List.map_append]
                  have e : [UInt8.ofNat (16 * ha + hb)].map byteV = [.int .u8 ((16 * ha + hb : Nat) : Int)] := by
                    simp only [List.map_cons, List.map_nil, byteV, UInt8.toNat_ofNat']
                    rw [Nat.mod_eq_of_lt (by omega)]
                  rw [e]
                  exact hown6)
                clear hown6 hg6 hoX hbX hor hown2
                go_wp2_with fail
                exact ⟨⟨i + 2, _, by simp, by omega, by omega, by rw [List.length_append, List.length_singleton]; have := HA2.out; omega, HQ2, HO, hb6⟩, by simp only [intOf]; omega⟩
          · obtain rfl : i = X.size := by omega
            have hdeci : decide ((X.size : Int) < (X.size : Int)) = false := by simp
            have HQ3 : Hid (glueB ac (bytesR (l.drop (k + 1))) = E) := Lib.hid (by
              rw [HREST.out, ← hq.out, List.drop_eq_nil_of_le (show X.data.toList.length ≤ X.size from Nat.le_refl _)]
              show _ = glueB ac (both (some []) rest)
              rw [both_nil])
            have HA2 := Lib.hid hac
            clear hac hq
            go_wp2_with fail
            exact ⟨⟨k + 1, _, by simp, by omega, by have := HA2.out; omega, HQ3, hown, hbx⟩, by simp only [intOf]; omega⟩
    · obtain rfl : k = n := by omega
      have hdec : decide ((k : Int) < (k : Int)) = false := by simp
      have hE : E = some acc := by
        rw [← hq.out, List.drop_eq_nil_of_le (by rw [HN.out]; exact Nat.le_refl _)]
        show glueB acc (some []) = _
        unfold glueB; simp
      have HE := Lib.hid hE
      clear hE hq HE0
      go_wp2_with fail
      go_ret2
      rw [HE.out]
      exact ⟨hbr, _, rfl, hown.out⟩
end Sc
end Go.Proofs.YtaaknnmnkgnbjaaDoor
