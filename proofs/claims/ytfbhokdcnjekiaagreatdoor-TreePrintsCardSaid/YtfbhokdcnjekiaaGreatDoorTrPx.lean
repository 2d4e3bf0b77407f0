/- The reference's text of a method, part 1: kind, join. · The reference's text of a method, part 2: spells. · The reference's text of a method, part 3: inside (printed by gen_trpc.py). · The reference's text of a method, part 4: message, send (printed by gen_trpd.py, hdx.py). · The reference's text of a method, part 5: elements (printed by gen_trpe.py). · The reference's text of a method, part 6: Spell, kind by kind (printed by gen_trpf.py, hdx.py). · The reference's text of a method, part 7: symbols; all nodes. -/
import Derived.Test.YtfbhokdcnjekiaaGreatDoorTrWa
import Derived.Test.YtfbhokdcnjekiaaGreatDoorTrPg
import Derived.Test.YtfbhokdcnjekiaaGreatDoorLxRM1
import Derived.Test.YtfbhokdcnjekiaaGreatDoorTrR1
import Derived.Test.YtfbhokdcnjekiaaGreatDoorLxRq
import Derived.Test.YtfbhokdcnjekiaaGreatDoorTrB9
set_option linter.unusedVariables false
namespace Go.Proofs.YtfbhokdcnjekiaaGreatDoor
open Go.RowKit
namespace Tr
open Bs Sm
theorem cat_b (a b : Bytes) : (⟨a.toArray⟩ : ByteArray) ++ (⟨b.toArray⟩ : ByteArray) = ⟨(a ++ b).toArray⟩ := ByteArray.mk_append_mk a b
set_option maxHeartbeats 1000000 in
theorem rkind_bytes (s : ByteArray) (h0 : 0 < s.size) (hs : s.size ≤ 1000000) (w : World) : Calls Tryz.prog 47 #[.string s] w (Done (.int .i64 (kindR s.data.toList)) w) := by
  have hz : s.data.toList.length = s.size := rfl
  have e0 : Lx.hd s.data.toList 0 = s[0] := by have := Lx.hd_drop s 0 0 (by omega); simpa using this
  have e1 : Lx.hd s.data.toList (s.data.toList.length - 1) = s[s.size - 1] := by have := Lx.hd_drop s 0 (s.size - 1) (by omega); simpa [hz] using this
  have hK : kindR s.data.toList = if Lx.letter s[0] then (if s[s.size - 1] = 58 then 2 else 0) else 1 := by unfold kindR; rw [e0, e1]
  rw [hK]
  have HL := Lib.hid (Lx.rletter_any s[0] w)
  obtain ⟨c, hc⟩ : ∃ c, s[0] = c := ⟨_, rfl⟩
  obtain ⟨d, hd⟩ : ∃ c, s[s.size - 1] = c := ⟨_, rfl⟩
  rw [hc, hd]
  rw [hc] at HL
  have hz1 : IntKind.i64.wrap ((s.size : Int) - 1) = (s.size : Int) - 1 := IntWalk.i64_in _ (by omega)
  have hn0 : (0 : Int) < (s.size : Int) := by omega
  have hn1 : (0 : Int) ≤ (s.size : Int) - 1 := by omega
  have hn2 : (s.size : Int) - 1 < (s.size : Int) := by omega
  have hn3 : ((s.size : Int) - 1).toNat = s.size - 1 := by omega
  clear hK e0 e1
  cases hl : Lx.letter c
  · rw [hl] at HL
    go_enter Tryz.func47, Tryz.ntmps47
    go_wp2_with (refine HL.out.mono ?_; rintro e w' ⟨rfl, rfl⟩)
    go_ret
    exact ⟨rfl, rfl⟩
  · rw [hl] at HL
    by_cases h58 : d = 58
    · have hb : ((d.toNat : Int) == 58) = true := by rw [h58]; rfl
      rw [if_pos h58]
      go_enter Tryz.func47, Tryz.ntmps47
      go_wp2_with (refine HL.out.mono ?_; rintro e w' ⟨rfl, rfl⟩)
      go_ret
      exact ⟨rfl, rfl⟩
    · have hb : ((d.toNat : Int) == 58) = false := Lx.bne_u8 _ 58 (by omega) h58
      rw [if_neg h58]
      go_enter Tryz.func47, Tryz.ntmps47
      go_wp2_with (refine HL.out.mono ?_; rintro e w' ⟨rfl, rfl⟩)
      go_ret
      exact ⟨rfl, rfl⟩
theorem rkind_any (s : Bytes) (h0 : 0 < s.length) (hs : s.length ≤ 1000000) (w : World) : Calls Tryz.prog 47 #[strV s] w (Done (.int .i64 (kindR s)) w) := by
  have := rkind_bytes ⟨s.toArray⟩ (show 0 < s.toArray.size by simpa using h0) (show s.toArray.size ≤ 1000000 by simpa using hs) w
  exact this
theorem rjoinF_le (bt : Bytes) (g : Nat → Bytes) {k n : Nat} (h : k ≤ n) : (joinF bt g k).length ≤ (joinF bt g n).length := by
  induction n with
  | zero => obtain rfl : k = 0 := by omega
            exact Nat.le_refl _
  | succ n ih =>
    by_cases e : k = n + 1
    · rw [e]; exact Nat.le_refl _
    · have := ih (by omega)
      rw [joinF_succ, List.length_append]
      omega
set_option maxRecDepth 100000 in
set_option maxHeartbeats 1600000 in
/-- join. -/
theorem rjoin_any {S : Nat → Prop} (l : List Bytes) (bt : Bytes) (v : Value) (w : World) (hl : Rd S strV w v l) (hb : (joinF bt (fun i => l.getD i []) l.length).length ≤ 1000000000) :
    Calls Tryz.prog 49 #[v, strV bt] w (Done (strV (joinF bt (fun i => l.getD i []) l.length)) w) := by
  obtain ⟨a, c, rfl, h1, h2⟩ := hl.form
  unfold maxLen at h2
  obtain ⟨n, hn⟩ : ∃ n, l.length = n := ⟨_, rfl⟩
  rw [hn] at hl h1 hb ⊢
  have HBD : Hid (∀ k, k ≤ n → (joinF bt (fun i => l.getD i []) k).length ≤ 1000000000) := Lib.hid (fun k hk => Nat.le_trans (rjoinF_le bt _ hk) hb)
  clear hb
  have HN := Lib.hid hn
  have HL := Lib.hid hl
  clear hl hn
  unfold strV
  go_enter Tryz.func49, Tryz.ntmps49
  go_wp2_with fail
  go_loopw [5, 6] (fun s y wr => ∃ (k : Nat) (J : Bytes), y = .int .i64 (k : Int) ∧ k ≤ n ∧ s = .string ⟨J.toArray⟩ ∧ Hid (J = joinF bt (fun i => l.getD i []) k) ∧ w = wr) (fun _ y _ => n - (intOf y).toNat)
  case atStart => exact ⟨0, [], rfl, Nat.zero_le _, rfl, Lib.hid rfl, rfl⟩
  case round =>
    obtain ⟨k, J, rfl, hk, rfl, hJ, rfl⟩ := hrel
    by_cases hkn : k < n
    · have hdec : decide ((k : Int) < (n : Int)) = true := by simpa using hkn
      have hkw : IntKind.i64.wrap ((k : Int) + 1) = (k : Int) + 1 := IntWalk.i64_in _ (by omega)
      obtain ⟨g1, o1, x, hx0, hx, hg1, hc1⟩ := HL.out.at_ k hkn
      subst hx0
      unfold strV at hc1
      have hkn1 : (k : Int) < (n : Int) := by omega
      have hk0 : 0 ≤ (k : Int) := by omega
      have hgd : l.getD k [] = x := by rw [List.getD_eq_getElem?_getD, hx]; rfl
      by_cases k0 : k = 0
      · have HS : Hid (J ++ x = joinF bt (fun i => l.getD i []) (k + 1)) := Lib.hid (by rw [joinF_succ, ← hJ.out, if_pos k0, hgd]; rfl)
        have hd0 : decide (0 < k) = false := decide_eq_false (by omega)
        have hcat := cat_b J x
        have hbd := HBD.out (k + 1) (by omega)
        rw [← HS.out, List.length_append] at hbd
        have K0 := Lib.hid k0
        clear hx hJ hgd k0
        go_wp2_with fail
        exact ⟨⟨k + 1, J ++ x, by simp, by omega, by first | rfl | simp, HS, by trivial⟩, by simp only [intOf]; omega⟩
      · have HS : Hid ((J ++ bt) ++ x = joinF bt (fun i => l.getD i []) (k + 1)) := Lib.hid (by rw [joinF_succ, ← hJ.out, if_neg k0, hgd, List.append_assoc])
        have hd0 : decide (0 < k) = true := decide_eq_true (by omega)
        have hbd := HBD.out (k + 1) (by omega)
        rw [← HS.out, List.length_append, List.length_append] at hbd
        have hbd1 : (J ++ bt).length = J.length + bt.length := List.length_append
        have hcat1 := cat_b J bt
        have hcat2 := cat_b (J ++ bt) x
        have K0 := Lib.hid k0
        clear hx hJ hgd k0
        go_wp2_with fail
        exact ⟨⟨k + 1, (J ++ bt) ++ x, by simp, by omega, by first | rfl | simp, HS, by trivial⟩, by simp only [intOf]; omega⟩
    · obtain rfl : k = n := by omega
      have hdec : decide ((k : Int) < (k : Int)) = false := by simp
      go_wp2_with fail
      go_ret
      exact ⟨by rw [hJ.out]; rfl, by first | rfl | trivial⟩
/-- The parts of a name, with their colons. -/
def kwC (l : Bytes) : List Bytes := (kwA [] l).map (· ++ [58])
theorem cur_one (l : Bytes) (f i : Nat) (hf : f ≤ i) (hi : i < l.length) : (l.drop f).take (i + 1 - f) = (l.drop f).take (i - f) ++ [l[i]] := by
  rw [show i + 1 - f = i - f + 1 by omega, List.take_succ_eq_append_getElem (by rw [List.length_drop]; omega)]
  congr 2
  rw [List.getElem_drop]
  congr 1
  omega
theorem ext_l (s : ByteArray) (f i : Nat) : (s.extract f i).data.toList = (s.data.toList.drop f).take (i - f) := by
  simp [ByteArray.extract, ByteArray.copySlice]
set_option maxRecDepth 100000 in
set_option maxHeartbeats 1600000 in
theorem rkeys_bytes (s : ByteArray) (w : World) (hs : s.size ≤ 1000000) :
    Calls Tryz.prog 48 #[.string s] w (fun e w' => Below w.heap.size w w' ∧ ∃ v, e = .returned v ∧ w'.ownsRow w.heap.size ST 1 v (kwC s.data.toList).length ((kwC s.data.toList).map strV)) := by
  obtain ⟨E, hE⟩ : ∃ E, kwC s.data.toList = E := ⟨_, rfl⟩
  rw [hE]
  have HE := Lib.hid hE
  clear hE
  obtain ⟨i0, hi, hz0, hz1, hz2⟩ := info_parts (show (Tryz.prog.info? ST).map (fun i => (i.zero, i.size, i.bytes)) = some (some (.string ⟨#[]⟩), 1, 16) by kernel_rfl)
  have tsl : Tryz.prog.underlying 22 = some (.slice ST) := by kernel_rfl
  go_enter Tryz.func48, Tryz.ntmps48
  go_wp2_with fail
  go_loopw [3, 4, 5] (fun v y z wr => ∃ (f k : Nat) (ws : List Bytes), y = .int .i64 (f : Int) ∧ z = .int .i64 (k : Int) ∧ f ≤ k ∧ k ≤ s.size ∧ ws.length ≤ k ∧ Hid (ws ++ (kwA ((s.data.toList.drop f).take (k - f)) (s.data.toList.drop k)).map (· ++ [58]) = E) ∧ wr.ownsRow w.heap.size ST 1 v ws.length (ws.map strV) ∧ Below w.heap.size w wr) (fun _ _ z _ => s.size - (intOf z).toNat)
  case atStart => exact ⟨0, 0, [], rfl, rfl, Nat.le_refl _, by omega, Nat.le_refl _, Lib.hid (by simpa [kwC] using HE.out), World.ownsRow_nil _ _ _ _, Below.refl _ _⟩
  case round =>
    obtain ⟨f, k, ws, rfl, rfl, hfk, hk, hwl, hrel2, hown, hbel⟩ := hrel
    have hkw : IntKind.i64.wrap ((k : Int) + 1) = (k : Int) + 1 := IntWalk.i64_in _ (by omega)
    by_cases hlt : k < s.size
    · have hd0 : (k : Int) < (s.size : Int) := by omega
      have hG := hrel2.out
      have hdc : s.data.toList.drop k = s[k] :: s.data.toList.drop (k + 1) := by
        rw [List.drop_eq_getElem_cons (show k < s.data.toList.length from hlt)]
        rfl
      rw [hdc] at hG
      unfold kwA at hG
      have hcu : (s.data.toList.drop f).take (k + 1 - f) = (s.data.toList.drop f).take (k - f) ++ [s[k]] := cur_one s.data.toList f k hfk hlt
      clear hrel2
      by_cases h58 : s[k] = 58
      · have hb : ((s[k].toNat : Int) == 58) = true := by rw [h58]; rfl
        rw [if_pos h58, List.map_cons] at hG
        rw [h58] at hcu
        obtain ⟨wd, hwd⟩ : ∃ wd, s.extract f (k + 1) = wd := ⟨_, rfl⟩
        have hwl2 : strV ((s.data.toList.drop f).take (k - f) ++ [58]) = .string wd := by rw [← hcu, ← hwd, ← ext_l s f (k + 1)]; unfold strV; rw [Array.toArray_toList]
        obtain ⟨c, hcc⟩ : ∃ c, s[k] = c := ⟨_, rfl⟩
        rw [hcc] at hb
        have hfi : (f : Int) ≤ (k : Int) + 1 := by omega
        have hfi2 : (k : Int) + 1 ≤ (s.size : Int) := by omega
        have HG := Lib.hid hG
        have HW := Lib.hid hwl2
        clear hG hwl2 hdc hcu h58
        go_wp2_with (at_builtin; refine wpList_append_own _ rfl _ _ 22 rfl w.heap.size ST i0 (.string ⟨#[]⟩) 1 16 tsl hi hz0 hz1 hz2 rfl (by decide) _ _ _ rfl (hown.alloc _) ⟨wr.heap.size, 0, none⟩ 1 1 [.string wd] rfl rfl (Lx.cells1 wr ST _) (by intro u hu; simp at hu; subst hu; rfl) (by unfold maxLen; omega) (by omega) (by have := hbel.size; simp; omega) ?_; intro v' w5 hown5 hgrow5 _; have hb5 := (hbel.alloc hbel.size _).grown hgrow5 (by have := hbel.size; simp; omega) (fun k hk => (hown.lt k hk).1); have ho5 := Lib.hid hown5; clear hown5 hgrow5)
        go_wp2_with fail
        exact ⟨⟨k + 1, k + 1, ws ++ [(s.data.toList.drop f).take (k - f) ++ [58]], by simp, by simp, Nat.le_refl _, by omega, by simp; omega, Lib.hid (by rw [List.append_assoc, Nat.sub_self, List.take_zero]; exact HG.out), by have := ho5.out; rw [List.length_append, List.map_append, List.map_singleton, HW.out]; exact this, hb5⟩, by simp only [intOf]; omega⟩
      · have hb : ((s[k].toNat : Int) == 58) = false := Lx.bne_u8 _ 58 (by omega) h58
        rw [if_neg h58, ← hcu] at hG
        obtain ⟨c, hcc⟩ : ∃ c, s[k] = c := ⟨_, rfl⟩
        rw [hcc] at hb
        have HG := Lib.hid hG
        clear hG hdc hcu h58
        go_wp2_with fail
        exact ⟨⟨f, k + 1, ws, rfl, by simp, by omega, by omega, by omega, HG, hown, hbel⟩, by simp only [intOf]; omega⟩
    · obtain rfl : k = s.size := by omega
      have hd0 : ¬ (s.size : Int) < (s.size : Int) := by omega
      have hG := hrel2.out
      rw [List.drop_eq_nil_of_le (show s.data.toList.length ≤ s.size from Nat.le_refl _)] at hG
      have hG2 : ws = E := by simpa [kwA] using hG
      clear hrel2 hG
      go_wp2_with fail
      go_ret
      rw [← hG2]
      exact ⟨hbel, _, rfl, hown⟩
theorem rkeys_any (s : Bytes) (w : World) (hs : s.length ≤ 1000000) :
    Calls Tryz.prog 48 #[strV s] w (fun e w' => Below w.heap.size w w' ∧ ∃ v, e = .returned v ∧ w'.ownsRow w.heap.size ST 1 v (kwC s).length ((kwC s).map strV)) :=
  rkeys_bytes ⟨s.toArray⟩ w (show s.toArray.size ≤ 1000000 by simpa using hs)
end Tr
end Go.Proofs.YtfbhokdcnjekiaaGreatDoor
namespace Go.Proofs.YtfbhokdcnjekiaaGreatDoor
open Go.RowKit
namespace Tr
open Bs Sm
/-- A node is spelled right. -/
def RSp (x : Nd) : Prop := ∀ kv nv w, Tree (fun _ => True) w kv x.kids → Rd (fun _ => True) strV w nv x.names → Calls Tryz.prog 86 #[ndV x kv nv] w (Back (strV (txt x).1) w)
set_option maxRecDepth 100000 in
set_option maxHeartbeats 1600000 in
theorem rspells_any (l : List Nd) (hn : l.length ≤ 100000) (hS : ∀ y ∈ l, RSp y) (v : Value) (w : World) (hl : Tree (fun _ => True) w v l) :
    Calls Tryz.prog 51 #[v] w (fun e w' => Below w.heap.size w w' ∧ ∃ v', e = .returned v' ∧ w'.ownsRow w.heap.size ST 1 v' l.length ((l.map (fun y => (txt y).1)).map strV)) := by
  obtain ⟨i0, hi, hz0, hz1, hz2⟩ := info_parts (show (Tryz.prog.info? ST).map (fun i => (i.zero, i.size, i.bytes)) = some (some (.string ⟨#[]⟩), 1, 16) by kernel_rfl)
  have tsl : Tryz.prog.underlying 22 = some (.slice ST) := by kernel_rfl
  obtain ⟨a, c, rfl, h1, h2⟩ := hl.form
  unfold maxLen at h2
  obtain ⟨n, hnn⟩ : ∃ n, l.length = n := ⟨_, rfl⟩
  rw [hnn] at hl h1 hn ⊢
  have HN := Lib.hid hnn
  have HL := Lib.hid hl
  have HS := Lib.hid hS
  clear hl hnn hS
  go_enter Tryz.func51, Tryz.ntmps51
  go_wp2_with fail
  go_loopw [3, 4] (fun v y wr => ∃ (k : Nat), y = .int .i64 (k : Int) ∧ k ≤ n ∧ Hid (wr.ownsRow w.heap.size ST 1 v k (((l.take k).map (fun y => (txt y).1)).map strV)) ∧ Below w.heap.size w wr) (fun _ y _ => n - (intOf y).toNat)
  case atStart => exact ⟨0, rfl, Nat.zero_le _, Lib.hid (World.ownsRow_nil _ _ _ _), Below.refl _ _⟩
  case round =>
    obtain ⟨k, rfl, hk, hown, hbel⟩ := hrel
    by_cases hkn : k < n
    · have hdec : decide ((k : Int) < (n : Int)) = true := by simpa using hkn
      have hkw : IntKind.i64.wrap ((k : Int) + 1) = (k : Int) + 1 := IntWalk.i64_in _ (by omega)
      obtain ⟨gb, off, x, ka, kc, na, nc, rfl, hx, hgb, -, ⟨c0, c1, c2, c3, c4, c5⟩, hkt, hnt⟩ := (HL.out.bel hbel).nth k hkn
      have hkn1 : (k : Int) < (n : Int) := by omega
      have hk0 : 0 ≤ (k : Int) := by omega
      have HC := HS.out x (List.mem_of_getElem? hx) _ _ wr hkt hnt
      unfold ndV at HC
      have htk : l.take (k + 1) = l.take k ++ [x] := by rw [List.take_add_one, hx]; rfl
      obtain ⟨T, hT⟩ : ∃ T, (txt x).1 = T := ⟨_, rfl⟩
      rw [hT] at HC
      unfold strV at HC
      have HC := Lib.hid HC
      have HTK : Hid ((((l.take (k + 1)).map (fun y => (txt y).1)).map strV) = (((l.take k).map (fun y => (txt y).1)).map strV) ++ [strV T]) := Lib.hid (by rw [htk, List.map_append, List.map_append, ← hT]; rfl)
      clear hx hkt hnt htk hT
      go_wp2_with fail
      refine HC.out.mono ?_; rintro e w1 ⟨rfl, hb1⟩
      have hbel1 := hbel.trans (hb1.mono hbel.size)
      have HO1 := Lib.hid (own_below hown.out hb1)
      clear hb1 hown hbel
      go_wp2_with (at_builtin; refine wpList_append_own _ rfl _ _ 22 rfl w.heap.size ST i0 (.string ⟨#[]⟩) 1 16 tsl hi hz0 hz1 hz2 rfl (by decide) _ _ _ rfl (HO1.out.alloc _) ⟨w1.heap.size, 0, none⟩ 1 1 [.string ⟨T.toArray⟩] rfl rfl (Lx.cells1 w1 ST _) (by intro u hu; simp at hu; subst hu; rfl) (by unfold maxLen; omega) (by omega) (by have := hbel1.size; simp; omega) ?_; intro v' w5 hown5 hgrow5 _; have hb5 := (hbel1.alloc hbel1.size _).grown hgrow5 (by have := hbel1.size; simp; omega) (fun k hk => (HO1.out.lt k hk).1); have ho5 := Lib.hid hown5; clear hown5 hgrow5)
      go_wp2_with fail
      exact ⟨⟨k + 1, by simp, by omega, Lib.hid (by rw [HTK.out]; exact ho5.out), hb5⟩, by simp only [intOf]; omega⟩
    · obtain rfl : k = n := by omega
      have hdec : decide ((k : Int) < (k : Int)) = false := by simp
      have hall : l.take k = l := List.take_of_length_le (by rw [HN.out]; exact Nat.le_refl _)
      rw [hall] at hown
      clear hall
      go_wp2_with fail
      go_ret
      exact ⟨hbel, _, rfl, hown.out⟩
end Tr
end Go.Proofs.YtfbhokdcnjekiaaGreatDoor
namespace Go.Proofs.YtfbhokdcnjekiaaGreatDoor
open Go.RowKit
namespace Tr
open Bs Sm
/-- How close it must bind there. -/
def rkW (wh : Int) : Int := if wh = 0 ∨ wh = 2 then 3 else 2
set_option maxRecDepth 100000 in
set_option maxHeartbeats 3200000 in
theorem rinside_any {x : Nd} {kv nv : Value} (hS : RSp x) (h7 : x.kind = 7 → 0 ≤ Lx.arityL x.name) (ht : (txt x).1.length ≤ 1000000000) (wh : Int) (hwh : wh = 0 ∨ wh = 1 ∨ wh = 2 ∨ wh = 3) (w : World) (hk : Tree (fun _ => True) w kv x.kids) (hn : Rd (fun _ => True) strV w nv x.names) :
    Calls Tryz.prog 138 #[ndV x kv nv, .int .i64 wh] w (Back (strV (leastT (rkW wh) x (txt x).1)) w) := by
  obtain ⟨ka, kc, rfl, -, -⟩ := hk.form
  obtain ⟨na, nc, rfl, -, -⟩ := hn.form
  have hX := alloc_bel w (.cells #[.int .i64 x.kind, .string ⟨x.name.toArray⟩, .int .i64 x.num, .slice ka x.kids.length kc, .slice na x.names.length nc, .int .i64 x.at_] 45)
  have hbk := Blk.made (T := 45) (cs := #[.int .i64 x.kind, .string ⟨x.name.toArray⟩, .int .i64 x.num, .slice ka x.kids.length kc, .slice na x.names.length nc, .int .i64 x.at_]) w
  obtain ⟨w2, hw⟩ : ∃ v, w.alloc (.cells #[.int .i64 x.kind, .string ⟨x.name.toArray⟩, .int .i64 x.num, .slice ka x.kids.length kc, .slice na x.names.length nc, .int .i64 x.at_] 45) = v := ⟨_, rfl⟩
  rw [hw] at hX hbk
  have HS := hS _ _ w2 (hk.bel hX) (hn.below hX)
  obtain ⟨T, hT⟩ : ∃ T, (txt x).1 = T := ⟨_, rfl⟩
  rw [hT] at HS ht ⊢
  unfold ndV strV at HS
  have HKN : x.kind = 7 → ∀ v, Calls Tryz.prog 47 #[.string ⟨x.name.toArray⟩] v (Done (.int .i64 (3 - rankS x.name)) v) := fun h v => by
    have ha := h7 h
    obtain ⟨h1, h2, -⟩ := ar_cases ha
    have := rkind_any x.name (by cases hx : x.name with | nil => exact absurd hx h1 | cons a b => simp) (by omega) v
    rw [kind_rank ha] at this
    exact this
  have HRR : x.kind = 7 → rankS x.name = 3 ∨ rankS x.name = 2 ∨ rankS x.name = 1 := fun h => by
    rcases rank_cases (h7 h) with h | h | h
    · exact .inl h.1
    · exact .inr (.inl h.1)
    · exact .inr (.inr h.1)
  have hlt : T.length + 1 + 1 ≤ 1000000002 := by omega
  have HW := Lib.hid hw
  have HX := Lib.hid hX
  have HBK := Lib.hid hbk
  replace HS := Lib.hid HS
  replace HKN := Lib.hid HKN
  replace HRR := Lib.hid HRR
  have hcat1 : (⟨#[40]⟩ : ByteArray) ++ ⟨T.toArray⟩ = ⟨(40 :: T).toArray⟩ := cat_b [40] T
  have hcat2 : (⟨(40 :: T).toArray⟩ : ByteArray) ++ ⟨#[41]⟩ = ⟨(40 :: (T ++ [41])).toArray⟩ := cat_b (40 :: T) [41]
  unfold ndV strV
  clear hS h7 hk hn hX hbk hw hT
  obtain ⟨K, hK⟩ : ∃ k, x.kind = k := ⟨_, rfl⟩
  have HNK : Hid (x.kind = K) := Lib.hid hK
  rw [hK] at HBK HW HS ⊢
  clear hK
  have HRW : Hid (rankN x = if K = 7 then rankS x.name else if K = 6 ∨ K = 8 then 0 else 4) := Lib.hid (by unfold rankN; rw [HNK.out])
  by_cases e6 : K = 6
  · have b6 : (K == 6) = true := beq_iff_eq.2 e6
    have b7 : (K == 7) = false := beq_eq_false_iff_ne.2 (by omega)
    have HRN : Hid (rankN x = 0) := Lib.hid (by rw [HRW.out, if_neg (by omega), if_pos (.inl e6)])
    clear e6
    have HT : Hid (leastT (rkW wh) x T = 40 :: (T ++ [41])) := Lib.hid (by unfold leastT; rw [if_pos (by rw [HRN.out]; unfold rkW; split <;> decide)])
    rcases hwh with rfl | rfl | rfl | rfl
    all_goals
      go_enter Tryz.func138, Tryz.ntmps138
      go_wp2_with fail
      rw [HW.out]
      refine HS.out.mono ?_; rintro e w3 ⟨rfl, hb3⟩
      have hk3 := HBK.out.below hb3 HBK.out.lt
      have c0 : w3.cell? ⟨w.heap.size, 0, none⟩ = some (.int .i64 K) := hk3.c 0 _ rfl
      have c1 := hk3.c 1 _ rfl
      have HB3 := Lib.hid (HX.out.trans (hb3.mono HX.out.size))
      clear hb3 hk3
      go_wp2_with fail
      go_ret
      exact ⟨by rw [HT.out]; first | rfl | simp, HB3.out⟩
  have b6 : (K == 6) = false := beq_eq_false_iff_ne.2 e6
  by_cases e8 : K = 8
  · have b8 : (K == 8) = true := beq_iff_eq.2 e8
    have b7 : (K == 7) = false := beq_eq_false_iff_ne.2 (by omega)
    have HRN : Hid (rankN x = 0) := Lib.hid (by rw [HRW.out, if_neg (by omega), if_pos (.inr e8)])
    clear e8 e6
    have HT : Hid (leastT (rkW wh) x T = 40 :: (T ++ [41])) := Lib.hid (by unfold leastT; rw [if_pos (by rw [HRN.out]; unfold rkW; split <;> decide)])
    rcases hwh with rfl | rfl | rfl | rfl
    all_goals
      go_enter Tryz.func138, Tryz.ntmps138
      go_wp2_with fail
      rw [HW.out]
      refine HS.out.mono ?_; rintro e w3 ⟨rfl, hb3⟩
      have hk3 := HBK.out.below hb3 HBK.out.lt
      have c0 : w3.cell? ⟨w.heap.size, 0, none⟩ = some (.int .i64 K) := hk3.c 0 _ rfl
      have c1 := hk3.c 1 _ rfl
      have HB3 := Lib.hid (HX.out.trans (hb3.mono HX.out.size))
      clear hb3 hk3
      go_wp2_with fail
      go_ret
      exact ⟨by rw [HT.out]; first | rfl | simp, HB3.out⟩
  have b8 : (K == 8) = false := beq_eq_false_iff_ne.2 e8
  by_cases e7 : K = 7
  · have b7 : (K == 7) = true := beq_iff_eq.2 e7
    have HKI := HKN.out (by rw [HNK.out]; exact e7)
    have hrr := HRR.out (by rw [HNK.out]; exact e7)
    have hrw := HRW.out
    rw [if_pos e7] at hrw
    clear e7 e6 e8
    rcases hrr with r | r | r
    · rw [r] at HKI hrw
      replace HKI := Lib.hid (fun v => HKI v)
      have HRN : Hid (rankN x = 3) := Lib.hid hrw
      clear hrw r
      have HT : Hid (leastT (rkW wh) x T = T) := Lib.hid (by unfold leastT; rw [if_neg (by rw [HRN.out]; unfold rkW; split <;> decide)])
      rcases hwh with rfl | rfl | rfl | rfl
      all_goals
        go_enter Tryz.func138, Tryz.ntmps138
        go_wp2_with fail
        rw [HW.out]
        refine HS.out.mono ?_; rintro e w3 ⟨rfl, hb3⟩
        have hk3 := HBK.out.below hb3 HBK.out.lt
        have c0 : w3.cell? ⟨w.heap.size, 0, none⟩ = some (.int .i64 K) := hk3.c 0 _ rfl
        have c1 := hk3.c 1 _ rfl
        have HB3 := Lib.hid (HX.out.trans (hb3.mono HX.out.size))
        clear hb3 hk3
        go_wp2_with fail
        refine (HKI.out _).mono ?_; rintro e w9 ⟨rfl, rfl⟩
        go_wp2_with fail
        go_ret
        exact ⟨by rw [HT.out]; first | rfl | simp, HB3.out⟩
    · rw [r] at HKI hrw
      replace HKI := Lib.hid (fun v => HKI v)
      have HRN : Hid (rankN x = 2) := Lib.hid hrw
      clear hrw r
      rcases hwh with rfl | rfl | rfl | rfl
      · skip
        have HT : Hid (leastT (rkW 0) x T = 40 :: (T ++ [41])) := Lib.hid (by unfold leastT; rw [if_pos (by rw [HRN.out]; decide)])
        go_enter Tryz.func138, Tryz.ntmps138
        go_wp2_with fail
        rw [HW.out]
        refine HS.out.mono ?_; rintro e w3 ⟨rfl, hb3⟩
        have hk3 := HBK.out.below hb3 HBK.out.lt
        have c0 : w3.cell? ⟨w.heap.size, 0, none⟩ = some (.int .i64 K) := hk3.c 0 _ rfl
        have c1 := hk3.c 1 _ rfl
        have HB3 := Lib.hid (HX.out.trans (hb3.mono HX.out.size))
        clear hb3 hk3
        go_wp2_with fail
        refine (HKI.out _).mono ?_; rintro e w9 ⟨rfl, rfl⟩
        go_wp2_with fail
        go_ret
        exact ⟨by rw [HT.out]; first | rfl | simp, HB3.out⟩
      · skip
        have HT : Hid (leastT (rkW 1) x T = T) := Lib.hid (by unfold leastT; rw [if_neg (by rw [HRN.out]; decide)])
        go_enter Tryz.func138, Tryz.ntmps138
        go_wp2_with fail
        rw [HW.out]
        refine HS.out.mono ?_; rintro e w3 ⟨rfl, hb3⟩
        have hk3 := HBK.out.below hb3 HBK.out.lt
        have c0 : w3.cell? ⟨w.heap.size, 0, none⟩ = some (.int .i64 K) := hk3.c 0 _ rfl
        have c1 := hk3.c 1 _ rfl
        have HB3 := Lib.hid (HX.out.trans (hb3.mono HX.out.size))
        clear hb3 hk3
        go_wp2_with fail
        refine (HKI.out _).mono ?_; rintro e w9 ⟨rfl, rfl⟩
        go_wp2_with fail
        go_ret
        exact ⟨by rw [HT.out]; first | rfl | simp, HB3.out⟩
      · skip
        have HT : Hid (leastT (rkW 2) x T = 40 :: (T ++ [41])) := Lib.hid (by unfold leastT; rw [if_pos (by rw [HRN.out]; decide)])
        go_enter Tryz.func138, Tryz.ntmps138
        go_wp2_with fail
        rw [HW.out]
        refine HS.out.mono ?_; rintro e w3 ⟨rfl, hb3⟩
        have hk3 := HBK.out.below hb3 HBK.out.lt
        have c0 : w3.cell? ⟨w.heap.size, 0, none⟩ = some (.int .i64 K) := hk3.c 0 _ rfl
        have c1 := hk3.c 1 _ rfl
        have HB3 := Lib.hid (HX.out.trans (hb3.mono HX.out.size))
        clear hb3 hk3
        go_wp2_with fail
        refine (HKI.out _).mono ?_; rintro e w9 ⟨rfl, rfl⟩
        go_wp2_with fail
        go_ret
        exact ⟨by rw [HT.out]; first | rfl | simp, HB3.out⟩
      · skip
        have HT : Hid (leastT (rkW 3) x T = T) := Lib.hid (by unfold leastT; rw [if_neg (by rw [HRN.out]; decide)])
        go_enter Tryz.func138, Tryz.ntmps138
        go_wp2_with fail
        rw [HW.out]
        refine HS.out.mono ?_; rintro e w3 ⟨rfl, hb3⟩
        have hk3 := HBK.out.below hb3 HBK.out.lt
        have c0 : w3.cell? ⟨w.heap.size, 0, none⟩ = some (.int .i64 K) := hk3.c 0 _ rfl
        have c1 := hk3.c 1 _ rfl
        have HB3 := Lib.hid (HX.out.trans (hb3.mono HX.out.size))
        clear hb3 hk3
        go_wp2_with fail
        refine (HKI.out _).mono ?_; rintro e w9 ⟨rfl, rfl⟩
        go_wp2_with fail
        go_ret
        exact ⟨by rw [HT.out]; first | rfl | simp, HB3.out⟩
    · rw [r] at HKI hrw
      replace HKI := Lib.hid (fun v => HKI v)
      have HRN : Hid (rankN x = 1) := Lib.hid hrw
      clear hrw r
      have HT : Hid (leastT (rkW wh) x T = 40 :: (T ++ [41])) := Lib.hid (by unfold leastT; rw [if_pos (by rw [HRN.out]; unfold rkW; split <;> decide)])
      rcases hwh with rfl | rfl | rfl | rfl
      all_goals
        go_enter Tryz.func138, Tryz.ntmps138
        go_wp2_with fail
        rw [HW.out]
        refine HS.out.mono ?_; rintro e w3 ⟨rfl, hb3⟩
        have hk3 := HBK.out.below hb3 HBK.out.lt
        have c0 : w3.cell? ⟨w.heap.size, 0, none⟩ = some (.int .i64 K) := hk3.c 0 _ rfl
        have c1 := hk3.c 1 _ rfl
        have HB3 := Lib.hid (HX.out.trans (hb3.mono HX.out.size))
        clear hb3 hk3
        go_wp2_with fail
        refine (HKI.out _).mono ?_; rintro e w9 ⟨rfl, rfl⟩
        go_wp2_with fail
        go_ret
        exact ⟨by rw [HT.out]; first | rfl | simp, HB3.out⟩
  · have b7 : (K == 7) = false := beq_eq_false_iff_ne.2 e7
    have HRN : Hid (rankN x = 4) := Lib.hid (by rw [HRW.out, if_neg e7, if_neg (by omega)])
    clear e7 e6 e8
    have HT : Hid (leastT (rkW wh) x T = T) := Lib.hid (by unfold leastT; rw [if_neg (by rw [HRN.out]; unfold rkW; split <;> decide)])
    rcases hwh with rfl | rfl | rfl | rfl
    all_goals
      go_enter Tryz.func138, Tryz.ntmps138
      go_wp2_with fail
      rw [HW.out]
      refine HS.out.mono ?_; rintro e w3 ⟨rfl, hb3⟩
      have hk3 := HBK.out.below hb3 HBK.out.lt
      have c0 : w3.cell? ⟨w.heap.size, 0, none⟩ = some (.int .i64 K) := hk3.c 0 _ rfl
      have c1 := hk3.c 1 _ rfl
      have HB3 := Lib.hid (HX.out.trans (hb3.mono HX.out.size))
      clear hb3 hk3
      go_wp2_with fail
      go_ret
      exact ⟨by rw [HT.out]; first | rfl | simp, HB3.out⟩
end Tr
end Go.Proofs.YtfbhokdcnjekiaaGreatDoor
namespace Go.Proofs.YtfbhokdcnjekiaaGreatDoor
open Go.RowKit
namespace Tr
open Bs Sm
/-- What inside says of a node. -/
def RIns (y : Nd) : Prop := ∀ wh, (wh = 0 ∨ wh = 1 ∨ wh = 2 ∨ wh = 3) → ∀ kv nv w, Tree (fun _ => True) w kv y.kids → Rd (fun _ => True) strV w nv y.names →
  Calls Tryz.prog 138 #[ndV y kv nv, .int .i64 wh] w (Back (strV (leastT (rkW wh) y (txt y).1)) w)
/-- A message is written right. -/
def RMsg (x : Nd) : Prop := ∀ kv nv w, Tree (fun _ => True) w kv x.kids → Rd (fun _ => True) strV w nv x.names → Calls Tryz.prog 121 #[ndV x kv nv] w (Back (strV (msgT txt x)) w)
/-- What is sent is written right. -/
def RSnd (x : Nd) : Prop := ∀ kv nv w, Tree (fun _ => True) w kv x.kids → Rd (fun _ => True) strV w nv x.names → Calls Tryz.prog 120 #[ndV x kv nv] w (Back (strV (sendT txt x)) w)
theorem rd_row {w : World} {B n : Nat} {v : Value} {l : List Bytes} (h : w.ownsRow B ST 1 v n (l.map strV)) (hl : l.length = n) : Rd (fun _ => True) strV w v l := by
  subst hl
  exact (Rd.of h).mono (fun _ _ _ => trivial)
theorem cat4 (a b c d : Bytes) : (⟨a.toArray⟩ : ByteArray) ++ ⟨b.toArray⟩ ++ ⟨c.toArray⟩ ++ ⟨d.toArray⟩ = ⟨(a ++ (b ++ (c ++ d))).toArray⟩ := by rw [cat_b, cat_b, cat_b]; simp
theorem kid_at {x y : Nd} {i : Nat} (h : x.kids[i]? = some y) : kid x i = y := by unfold kid; rw [List.getD_eq_getElem?_getD, h]; rfl
set_option maxRecDepth 100000 in
set_option maxHeartbeats 1600000 in
theorem rmsg_name {x : Nd} (ha : 0 ≤ Lx.arityL x.name) (hr : rankS x.name = 3) : RMsg x := by
  intro kv nv w hk hn
  obtain ⟨ka, kc, rfl, -, -⟩ := hk.form
  obtain ⟨na, nc, rfl, -, -⟩ := hn.form
  have hX := alloc_bel w (.cells #[.int .i64 x.kind, .string ⟨x.name.toArray⟩, .int .i64 x.num, .slice ka x.kids.length kc, .slice na x.names.length nc, .int .i64 x.at_] 45)
  have hbk := Blk.made (T := 45) (cs := #[.int .i64 x.kind, .string ⟨x.name.toArray⟩, .int .i64 x.num, .slice ka x.kids.length kc, .slice na x.names.length nc, .int .i64 x.at_]) w
  obtain ⟨w2, hw⟩ : ∃ v, w.alloc (.cells #[.int .i64 x.kind, .string ⟨x.name.toArray⟩, .int .i64 x.num, .slice ka x.kids.length kc, .slice na x.names.length nc, .int .i64 x.at_] 45) = v := ⟨_, rfl⟩
  rw [hw] at hX hbk
  have hk2 := hk.bel hX
  have hn2 := hn.below hX
  have HKN : Hid (∀ v, Calls Tryz.prog 47 #[.string ⟨x.name.toArray⟩] v (Done (.int .i64 (3 - rankS x.name)) v)) := Lib.hid (fun v => by
    obtain ⟨h1, h2, -⟩ := ar_cases ha
    have := rkind_any x.name (by cases hx : x.name with | nil => exact absurd hx h1 | cons a b => simp) (by omega) v
    rw [kind_rank ha] at this
    exact this)
  rw [hr] at HKN
  have hm : msgT txt x = x.name := by unfold msgT; rw [if_pos hr]
  rw [hm]
  have c1 : w2.cell? ⟨w.heap.size, 1, none⟩ = some (.string ⟨x.name.toArray⟩) := hbk.c 1 _ rfl
  have HW := Lib.hid hw
  have HX := Lib.hid hX
  unfold ndV strV
  clear hX hbk hw hk hn hk2 hn2 hm ha hr
  go_enter Tryz.func121, Tryz.ntmps121
  go_wp2_with fail
  rw [HW.out]
  refine (HKN.out _).mono ?_; rintro e w9 ⟨rfl, rfl⟩
  go_wp2_with fail
  go_ret
  exact ⟨rfl, HX.out⟩
set_option maxRecDepth 100000 in
set_option maxHeartbeats 3200000 in
theorem rmsg_op {x : Nd} (ha : 0 ≤ Lx.arityL x.name) (hr : rankS x.name = 2) (hkl : x.kids.length = 2) (hI : RIns (kid x 1)) (hsz : (msgT txt x).length ≤ 1000000000) : RMsg x := by
  intro kv nv w hk hn
  obtain ⟨ka, kc, rfl, -, -⟩ := hk.form
  obtain ⟨na, nc, rfl, -, -⟩ := hn.form
  have hX := alloc_bel w (.cells #[.int .i64 x.kind, .string ⟨x.name.toArray⟩, .int .i64 x.num, .slice ka x.kids.length kc, .slice na x.names.length nc, .int .i64 x.at_] 45)
  have hbk := Blk.made (T := 45) (cs := #[.int .i64 x.kind, .string ⟨x.name.toArray⟩, .int .i64 x.num, .slice ka x.kids.length kc, .slice na x.names.length nc, .int .i64 x.at_]) w
  obtain ⟨w2, hw⟩ : ∃ v, w.alloc (.cells #[.int .i64 x.kind, .string ⟨x.name.toArray⟩, .int .i64 x.num, .slice ka x.kids.length kc, .slice na x.names.length nc, .int .i64 x.at_] 45) = v := ⟨_, rfl⟩
  rw [hw] at hX hbk
  have hk2 := hk.bel hX
  have hn2 := hn.below hX
  have HKN : Hid (∀ v, Calls Tryz.prog 47 #[.string ⟨x.name.toArray⟩] v (Done (.int .i64 (3 - rankS x.name)) v)) := Lib.hid (fun v => by
    obtain ⟨h1, h2, -⟩ := ar_cases ha
    have := rkind_any x.name (by cases hx : x.name with | nil => exact absurd hx h1 | cons a b => simp) (by omega) v
    rw [kind_rank ha] at this
    exact this)
  rw [hr] at HKN
  have hm : msgT txt x = x.name ++ ([32] ++ leastT 3 (kid x 1) (txt (kid x 1)).1) := by unfold msgT; rw [if_neg (by rw [hr]; decide), if_pos hr]
  rw [hkl] at hk2 hbk hw
  obtain ⟨gb, off, y, yka, ykc, yna, ync, rfl, hy, hgb, -, hrow, hyt, hyn⟩ := hk2.nth 1 (by omega)
  rw [kid_at hy] at hm hI
  obtain ⟨G, hG⟩ : ∃ G, leastT 3 y (txt y).1 = G := ⟨_, rfl⟩
  rw [hG] at hm
  rw [hm] at hsz ⊢
  simp only [List.length_append, List.length_cons, List.length_nil] at hsz
  have HIN : Hid (∀ v, Below w2.heap.size w2 v → Calls Tryz.prog 138 #[.agg #[.int .i64 y.kind, .string ⟨y.name.toArray⟩, .int .i64 y.num, .slice yka y.kids.length ykc, .slice yna y.names.length ync, .int .i64 y.at_], .int .i64 2] v (Back (.string ⟨G.toArray⟩) v)) := Lib.hid (fun v hv => by
    have := hI 2 (.inr (.inr (.inl rfl))) _ _ v (hyt.bel hv) (hyn.below hv)
    rw [show rkW 2 = 3 from rfl, hG] at this
    exact this)
  have hS : Hid (∀ v, Below w2.heap.size w2 v → (v.cell? ⟨w.heap.size, 1, none⟩ = some (.string ⟨x.name.toArray⟩) ∧ v.cell? ⟨w.heap.size, 3, none⟩ = some (.slice (some ⟨gb, off, none⟩) 2 kc) ∧ (v.cell? ⟨gb, off + 6, none⟩ = some (.int .i64 y.kind) ∧ v.cell? ⟨gb, off + 6 + 1, none⟩ = some (.string ⟨y.name.toArray⟩) ∧ v.cell? ⟨gb, off + 6 + 2, none⟩ = some (.int .i64 y.num) ∧ v.cell? ⟨gb, off + 6 + 3, none⟩ = some (.slice yka y.kids.length ykc) ∧ v.cell? ⟨gb, off + 6 + 4, none⟩ = some (.slice yna y.names.length ync) ∧ v.cell? ⟨gb, off + 6 + 5, none⟩ = some (.int .i64 y.at_)))) := Lib.hid (fun v hv => by
    have hb := hbk.below hv hbk.lt
    obtain ⟨r0, r1, r2, r3, r4, r5⟩ := hrow.kp (w' := v) (fun i => hv.cell (p := ⟨gb, i, none⟩) hgb)
    exact ⟨hb.c 1 _ rfl, hb.c 3 _ rfl, r0, r1, r2, r3, r4, r5⟩)
  have HW := Lib.hid hw
  have HX := Lib.hid hX
  have hcat1 : (⟨x.name.toArray⟩ : ByteArray) ++ ⟨#[32]⟩ = ⟨(x.name ++ [32]).toArray⟩ := cat_b x.name [32]
  have hcat2 : (⟨(x.name ++ [32]).toArray⟩ : ByteArray) ++ ⟨G.toArray⟩ = ⟨(x.name ++ ([32] ++ G)).toArray⟩ := by rw [cat_b, List.append_assoc]
  have hle : (x.name ++ [32]).length = x.name.length + 1 := by simp
  unfold ndV strV
  rw [hkl]
  clear hX hbk hw hk hn hk2 hn2 hm ha hr hrow hyt hyn hI hy hG
  go_enter Tryz.func121, Tryz.ntmps121
  go_wp2_with fail
  rw [HW.out]
  refine (HKN.out _).mono ?_; rintro e w9 ⟨rfl, rfl⟩
  go_upto_region 5 with fail
  have HB0 : Hid (Below w2.heap.size w2 w2.drew) := Lib.hid (Below.refl _ w2).drew
  refine wp_region_noPanic ?_
  refine Hd.start (fun v => v.cell? ⟨w.heap.size, 1, none⟩ = some (.string ⟨x.name.toArray⟩) ∧ v.cell? ⟨w.heap.size, 3, none⟩ = some (.slice (some ⟨gb, off, none⟩) 2 kc) ∧ (v.cell? ⟨gb, off + 6, none⟩ = some (.int .i64 y.kind) ∧ v.cell? ⟨gb, off + 6 + 1, none⟩ = some (.string ⟨y.name.toArray⟩) ∧ v.cell? ⟨gb, off + 6 + 2, none⟩ = some (.int .i64 y.num) ∧ v.cell? ⟨gb, off + 6 + 3, none⟩ = some (.slice yka y.kids.length ykc) ∧ v.cell? ⟨gb, off + 6 + 4, none⟩ = some (.slice yna y.names.length ync) ∧ v.cell? ⟨gb, off + 6 + 5, none⟩ = some (.int .i64 y.at_))) (by kernel_rfl) (hS.out _ HB0.out) (fun hH0 => ?_)
  refine Hd.take 0 1 (oi := ?_) (v := ?_) ?_ (by kernel_rfl) (fun _ _ _ h => h) hH0 ?_ ?_ ?_
  rotate_left 2
  · simp only [List.getElem?_toArray, List.getElem?_cons_zero]
    exact rfl
  · rfl
  · intro w hSw
    (try dsimp only at hSw)
    go_simp
    try with_reducible rfl
  try simp only [Act.put, List.setIfInBounds_toArray, List.set_cons_zero, List.set_cons_succ]
  refine Hd.take 1 2 (oi := ?_) (v := ?_) ?_ (by kernel_rfl) (fun _ _ _ h => h) hH0 ?_ ?_ ?_
  rotate_left 2
  · simp only [List.getElem?_toArray, List.getElem?_cons_succ, List.getElem?_cons_zero]
    exact rfl
  · rfl
  · intro w hSw
    (try dsimp only at hSw)
    go_simp
    try with_reducible rfl
  try simp only [Act.put, List.setIfInBounds_toArray, List.set_cons_zero, List.set_cons_succ]
  refine Hd.take 2 8 (oi := ?_) (v := ?_) ?_ (by kernel_rfl) (fun _ _ _ h => h) hH0 ?_ ?_ ?_
  rotate_left 2
  · simp only [List.getElem?_toArray, List.getElem?_cons_succ, List.getElem?_cons_zero]
    exact rfl
  · rfl
  · intro w hSw
    (try dsimp only at hSw)
    go_simp
    rw [if_neg (by (try simp only [List.length_append, List.length_cons, List.length_nil]); omega)]
  try simp only [Act.put, List.setIfInBounds_toArray, List.set_cons_zero, List.set_cons_succ]
  refine Hd.take 3 4 (oi := ?_) (v := ?_) ?_ (by kernel_rfl) (fun _ _ _ h => h) hH0 ?_ ?_ ?_
  rotate_left 2
  · simp only [List.getElem?_toArray, List.getElem?_cons_succ, List.getElem?_cons_zero]
    exact rfl
  · rfl
  · intro w hSw
    (try dsimp only at hSw)
    go_simp
    try with_reducible rfl
  try simp only [Act.put, List.setIfInBounds_toArray, List.set_cons_zero, List.set_cons_succ]
  refine Hd.take 4 5 (oi := ?_) (v := ?_) ?_ (by kernel_rfl) (fun _ _ _ h => h) hH0 ?_ ?_ ?_
  rotate_left 2
  · simp only [List.getElem?_toArray, List.getElem?_cons_succ, List.getElem?_cons_zero]
    exact rfl
  · rfl
  · intro w hSw
    (try dsimp only at hSw)
    go_simp
    try with_reducible rfl
  try simp only [Act.put, List.setIfInBounds_toArray, List.set_cons_zero, List.set_cons_succ]
  refine Hd.take 5 6 (oi := ?_) (v := ?_) ?_ (by kernel_rfl) (fun _ _ _ h => h) hH0 ?_ ?_ ?_
  rotate_left 2
  · simp only [List.getElem?_toArray, List.getElem?_cons_succ, List.getElem?_cons_zero]
    exact rfl
  · rfl
  · intro w hSw
    (try dsimp only at hSw)
    go_simp
    try with_reducible rfl
  try simp only [Act.put, List.setIfInBounds_toArray, List.set_cons_zero, List.set_cons_succ]
  refine Hd.take 6 7 (oi := ?_) (v := ?_) ?_ (by kernel_rfl) (fun _ _ _ h => h) hH0 ?_ ?_ ?_
  rotate_left 2
  · simp only [List.getElem?_toArray, List.getElem?_cons_succ, List.getElem?_cons_zero]
    exact rfl
  · rfl
  · intro w hSw
    (try dsimp only at hSw)
    go_simp
    try with_reducible rfl
  try simp only [Act.put, List.setIfInBounds_toArray, List.set_cons_zero, List.set_cons_succ]
  refine Hd.one 7 7 (o := ?_) ?_ (by kernel_rfl) (fun K hK => ?_)
  rotate_left 1
  · simp only [List.getElem?_toArray, List.getElem?_cons_succ, List.getElem?_cons_zero]
    exact rfl
  go_simp
  refine (HIN.out _ HB0.out).mono ?_; rintro e w4 ⟨rfl, hbd⟩
  have HB1 := Lib.hid (HB0.out.trans (hbd.mono HB0.out.size))
  clear hbd
  go_wp2_with fail
  refine hK.out _ _ (hS.out _ HB1.out) (fun hH1 => ?_)
  clear hK K
  try simp only [Act.put, List.setIfInBounds_toArray, List.set_cons_zero, List.set_cons_succ]
  refine Hd.take 8 9 (oi := ?_) (v := ?_) ?_ (by kernel_rfl) (fun _ _ _ h => h) hH1 ?_ ?_ ?_
  rotate_left 2
  · simp only [List.getElem?_toArray, List.getElem?_cons_succ, List.getElem?_cons_zero]
    exact rfl
  · rfl
  · intro w hSw
    (try dsimp only at hSw)
    go_simp
    rw [if_neg (by (try simp only [List.length_append, List.length_cons, List.length_nil]); omega)]
  try simp only [Act.put, List.setIfInBounds_toArray, List.set_cons_zero, List.set_cons_succ]
  refine Hd.last 9 (o := ?_) ?_ (by kernel_rfl) (by kernel_rfl) (by kernel_rfl) (fun K hK => ?_)
  rotate_left 1
  · simp only [List.getElem?_toArray, List.getElem?_cons_succ, List.getElem?_cons_zero]
    exact rfl
  go_simp
  refine hK.out _ _ ?_
  clear hK K
  try simp only [Act.put, List.setIfInBounds_toArray, List.set_cons_zero, List.set_cons_succ]
  simp only [NoPanic]
  go_wp2_with fail
  go_ret
  exact ⟨by first | rfl | simp, HX.out.trans (HB1.out.mono HX.out.size)⟩
set_option maxRecDepth 100000 in
set_option maxHeartbeats 3200000 in
theorem rmsg_kw {x : Nd} (ha : 0 ≤ Lx.arityL x.name) (hr : rankS x.name = 1) (hkl : x.kids.length = (partsL x.name).length + 1) (hI : ∀ i, 0 < i → i < x.kids.length → RIns (kid x i)) (hsz : (msgT txt x).length ≤ 1000000000) : RMsg x := by
  intro kv nv w hk hn
  obtain ⟨ka, kc, rfl, -, -⟩ := hk.form
  obtain ⟨na, nc, rfl, -, -⟩ := hn.form
  have hX := alloc_bel w (.cells #[.int .i64 x.kind, .string ⟨x.name.toArray⟩, .int .i64 x.num, .slice ka x.kids.length kc, .slice na x.names.length nc, .int .i64 x.at_] 45)
  have hbk := Blk.made (T := 45) (cs := #[.int .i64 x.kind, .string ⟨x.name.toArray⟩, .int .i64 x.num, .slice ka x.kids.length kc, .slice na x.names.length nc, .int .i64 x.at_]) w
  obtain ⟨w2, hw⟩ : ∃ v, w.alloc (.cells #[.int .i64 x.kind, .string ⟨x.name.toArray⟩, .int .i64 x.num, .slice ka x.kids.length kc, .slice na x.names.length nc, .int .i64 x.at_] 45) = v := ⟨_, rfl⟩
  rw [hw] at hX hbk
  have hk2 := hk.bel hX
  have hn2 := hn.below hX
  have HKN : Hid (∀ v, Calls Tryz.prog 47 #[.string ⟨x.name.toArray⟩] v (Done (.int .i64 (3 - rankS x.name)) v)) := Lib.hid (fun v => by
    obtain ⟨h1, h2, -⟩ := ar_cases ha
    have := rkind_any x.name (by cases hx : x.name with | nil => exact absurd hx h1 | cons a b => simp) (by omega) v
    rw [kind_rank ha] at this
    exact this)
  rw [hr] at HKN
  have hm : msgT txt x = spreadT x.name (fun i => leastT 2 (kid x (i + 1)) (txt (kid x (i + 1))).1) (partsL x.name).length := by unfold msgT; rw [if_neg (by rw [hr]; decide), if_neg (by rw [hr]; decide)]
  rw [hm] at hsz ⊢
  obtain ⟨hs1, hs2, -⟩ := ar_cases ha
  have hpk : partsL x.name = kwA [] x.name := by
    rcases rank_cases ha with h | h | h
    · rw [h.1] at hr; cases hr
    · rw [h.1] at hr; cases hr
    · exact h.2.2.1
  have HKY := Lib.hid (rkeys_any x.name w2 (by omega))
  obtain ⟨N, hN⟩ : ∃ n, (partsL x.name).length = n := ⟨_, rfl⟩
  have hN64 : N ≤ 64 := by
    rw [← hN, hpk, kwA_len]
    have := List.count_le_length (a := (58 : UInt8)) (l := x.name)
    omega
  have hkc : (kwC x.name).length = N := by unfold kwC; rw [List.length_map, ← hpk, hN]
  obtain ⟨GF, hGF⟩ : ∃ g : Nat → Bytes, g = fun i => (partsL x.name).getD i [] ++ ([58, 32] ++ leastT 2 (kid x (i + 1)) (txt (kid x (i + 1))).1) := ⟨_, rfl⟩
  unfold spreadT at hsz ⊢
  rw [← hGF, hN] at hsz ⊢
  have HBD : Hid (∀ k, k ≤ N → (joinF [32] GF k).length ≤ 1000000000) := Lib.hid (fun k hk => Nat.le_trans (rjoinF_le [32] GF hk) hsz)
  have hkw9 : ∀ i P, (kwC x.name)[i]? = some P → P = (partsL x.name).getD i [] ++ [58] := fun i P h => by
    unfold kwC at h
    rw [← hpk, List.getElem?_map] at h
    obtain ⟨q, hq, rfl⟩ := Option.map_eq_some_iff.1 h
    rw [List.getD_eq_getElem?_getD, hq]
    rfl
  obtain ⟨n1, hn1⟩ : ∃ n, x.kids.length = n := ⟨_, rfl⟩
  rw [hkc] at HKY
  unfold strV at HKY
  rw [hn1] at hkl hk2 hbk hw hI
  rw [hN] at hkl
  have c1 : w2.cell? ⟨w.heap.size, 1, none⟩ = some (.string ⟨x.name.toArray⟩) := hbk.c 1 _ rfl
  have HW := Lib.hid hw
  have HX := Lib.hid hX
  have HBK := Lib.hid hbk
  have HK2 := Lib.hid hk2
  have HI := Lib.hid hI
  have HG9 := Lib.hid hGF
  have HKL := Lib.hid hkl
  have HKC := Lib.hid hkc
  replace hkw9 := Lib.hid hkw9
  unfold ndV strV
  rw [hn1]
  clear hX hbk hw hk hn hk2 hn2 hm hr hI hGF hsz hpk hkc hN ha hn1 hkl
  go_enter Tryz.func121, Tryz.ntmps121
  go_wp2_with fail
  rw [HW.out]
  refine (HKN.out _).mono ?_; rintro e w9 ⟨rfl, rfl⟩
  go_wp2_with fail
  refine HKY.out.mono ?_; rintro e w3 ⟨hb3, vk, rfl, hown⟩
  have HOWN := Lib.hid hown
  obtain ⟨ko, kcc, rfl, -⟩ := own_slice hown
  have HB3 := Lib.hid hb3
  clear hb3 hown c1
  go_wp2_with fail
  go_loopw [4, 5] (fun s y wr => ∃ (k : Nat) (J : Bytes), y = .int .i64 (k : Int) ∧ k ≤ N ∧ s = .string ⟨J.toArray⟩ ∧ Hid (J = joinF [32] GF k) ∧ Below w3.heap.size w3 wr) (fun _ y _ => N - (intOf y).toNat)
  case atStart => exact ⟨0, [], rfl, Nat.zero_le _, rfl, Lib.hid rfl, Below.refl _ _⟩
  case round =>
    obtain ⟨k, J, rfl, hk, rfl, hJ, hbel⟩ := hrel
    have HBE := Lib.hid hbel
    have HB2R := Lib.hid (HB3.out.trans (hbel.mono HB3.out.size))
    by_cases hkn : k < N
    · have hdec : decide ((k : Int) < (N : Int)) = true := decide_eq_true (by omega)
      have hkw : IntKind.i64.wrap ((k : Int) + 1) = (k : Int) + 1 := IntWalk.i64_in _ (by omega)
      have hrd : Rd (fun _ => True) strV wr (.slice ko N kcc) (kwC x.name) := ((rd_row HOWN.out HKC.out).below hbel)
      obtain ⟨g2, o2, P, hko, hP, hg2, hc2⟩ := hrd.at_ k hkn
      subst hko
      unfold strV at hc2
      obtain ⟨gb, off, y, yka, ykc, yna, ync, rfl, hy, hgb, -, hrow, hyt, hyn⟩ := (HK2.out.bel HB2R.out).nth (k + 1) (by have := HKL.out; omega)
      have hPP := hkw9.out k P hP
      have hIy := HI.out (k + 1) (by omega) (by have := HKL.out; omega)
      have hky := kid_at hy
      rw [hky] at hIy
      obtain ⟨G, hG⟩ : ∃ G, leastT 2 y (txt y).1 = G := ⟨_, rfl⟩
      have hgf : GF k = P ++ ([32] ++ G) := by rw [HG9.out]; show (partsL x.name).getD k [] ++ ([58, 32] ++ leastT 2 (kid x (k + 1)) (txt (kid x (k + 1))).1) = _; rw [hky, hG, hPP]; simp
      have HIN : Hid (∀ v, Below wr.heap.size wr v → Calls Tryz.prog 138 #[.agg #[.int .i64 y.kind, .string ⟨y.name.toArray⟩, .int .i64 y.num, .slice yka y.kids.length ykc, .slice yna y.names.length ync, .int .i64 y.at_], .int .i64 3] v (Back (.string ⟨G.toArray⟩) v)) := Lib.hid (fun v hv => by
        have := hIy 3 (.inr (.inr (.inr rfl))) _ _ v (hyt.bel hv) (hyn.below hv)
        rw [show rkW 3 = 2 from rfl, hG] at this
        exact this)
      have hbw := HBK.out.below HB2R.out HBK.out.lt
      have hS : Hid (∀ v, Below wr.heap.size wr v → (v.cell? ⟨w.heap.size, 3, none⟩ = some (.slice (some ⟨gb, off, none⟩) n1 kc) ∧ v.cell? ⟨g2, o2 + k, none⟩ = some (.string ⟨P.toArray⟩) ∧ (v.cell? ⟨gb, off + (k + 1) * 6, none⟩ = some (.int .i64 y.kind) ∧ v.cell? ⟨gb, off + (k + 1) * 6 + 1, none⟩ = some (.string ⟨y.name.toArray⟩) ∧ v.cell? ⟨gb, off + (k + 1) * 6 + 2, none⟩ = some (.int .i64 y.num) ∧ v.cell? ⟨gb, off + (k + 1) * 6 + 3, none⟩ = some (.slice yka y.kids.length ykc) ∧ v.cell? ⟨gb, off + (k + 1) * 6 + 4, none⟩ = some (.slice yna y.names.length ync) ∧ v.cell? ⟨gb, off + (k + 1) * 6 + 5, none⟩ = some (.int .i64 y.at_)))) := Lib.hid (fun v hv => by
        have hb := hbw.below hv hbw.lt
        obtain ⟨r0, r1, r2, r3, r4, r5⟩ := hrow.kp (w' := v) (fun i => hv.cell (p := ⟨gb, i, none⟩) hgb)
        exact ⟨hb.c 3 _ rfl, (hv.cell (p := ⟨g2, o2 + k, none⟩) hg2).trans hc2, r0, r1, r2, r3, r4, r5⟩)
      have hkn1 : (k : Int) < (N : Int) := by omega
      have hk0 : 0 ≤ (k : Int) := by omega
      have hkn2 : (k : Int) + 1 < (n1 : Int) := by have := HKL.out; omega
      have hk02 : 0 ≤ (k : Int) + 1 := by omega
      have htn : ((k : Int) + 1).toNat = k + 1 := by omega
      clear hbel hrd hP hc2 hy hrow hyt hyn hPP hIy hky hG hbw
      by_cases k0 : k = 0
      · have K0 := Lib.hid k0
        have hd0 : decide (0 < k) = false := decide_eq_false (by omega)
        clear k0
        have HNX : Hid (J ++ (P ++ ([32] ++ G)) = joinF [32] GF (k + 1)) := Lib.hid (by rw [joinF_succ, ← hJ.out, if_pos K0.out, hgf]; simp)
        have hbd := HBD.out (k + 1) (by omega)
        rw [← HNX.out] at hbd
        simp only [List.length_append, List.length_cons, List.length_nil] at hbd
        have hjl : J.length + P.length + 1 + G.length ≤ 1000000000 := by omega
        clear hgf hJ
        go_upto_region 13 with fail
        have HB0 : Hid (Below wr.heap.size wr wr.drew) := Lib.hid (Below.refl _ wr).drew
        refine wp_region_noPanic ?_
        refine Hd.start (fun v => v.cell? ⟨w.heap.size, 3, none⟩ = some (.slice (some ⟨gb, off, none⟩) n1 kc) ∧ v.cell? ⟨g2, o2 + k, none⟩ = some (.string ⟨P.toArray⟩) ∧ (v.cell? ⟨gb, off + (k + 1) * 6, none⟩ = some (.int .i64 y.kind) ∧ v.cell? ⟨gb, off + (k + 1) * 6 + 1, none⟩ = some (.string ⟨y.name.toArray⟩) ∧ v.cell? ⟨gb, off + (k + 1) * 6 + 2, none⟩ = some (.int .i64 y.num) ∧ v.cell? ⟨gb, off + (k + 1) * 6 + 3, none⟩ = some (.slice yka y.kids.length ykc) ∧ v.cell? ⟨gb, off + (k + 1) * 6 + 4, none⟩ = some (.slice yna y.names.length ync) ∧ v.cell? ⟨gb, off + (k + 1) * 6 + 5, none⟩ = some (.int .i64 y.at_))) (by kernel_rfl) (hS.out _ HB0.out) (fun hH0 => ?_)
        refine Hd.take 0 5 (oi := ?_) (v := ?_) ?_ (by kernel_rfl) (fun _ _ _ h => h) hH0 ?_ ?_ ?_
        rotate_left 2
        · simp only [List.getElem?_toArray, List.getElem?_cons_zero]
          exact rfl
        · rfl
        · intro w hSw
          (try dsimp only at hSw)
          go_simp
          try with_reducible rfl
        try simp only [Act.put, List.setIfInBounds_toArray, List.set_cons_zero, List.set_cons_succ]
        refine Hd.take 1 3 (oi := ?_) (v := ?_) ?_ (by kernel_rfl) (fun _ _ _ h => h) hH0 ?_ ?_ ?_
        rotate_left 2
        · simp only [List.getElem?_toArray, List.getElem?_cons_succ, List.getElem?_cons_zero]
          exact rfl
        · rfl
        · intro w hSw
          (try dsimp only at hSw)
          go_simp
          try with_reducible rfl
        try simp only [Act.put, List.setIfInBounds_toArray, List.set_cons_zero, List.set_cons_succ]
        refine Hd.take 2 3 (oi := ?_) (v := ?_) ?_ (by kernel_rfl) (fun _ _ _ h => h) hH0 ?_ ?_ ?_
        rotate_left 2
        · simp only [List.getElem?_toArray, List.getElem?_cons_succ, List.getElem?_cons_zero]
          exact rfl
        · rfl
        · intro w hSw
          (try dsimp only at hSw)
          go_simp
          try with_reducible rfl
        try simp only [Act.put, List.setIfInBounds_toArray, List.set_cons_zero, List.set_cons_succ]
        refine Hd.take 3 4 (oi := ?_) (v := ?_) ?_ (by kernel_rfl) (fun _ _ _ h => h) hH0 ?_ ?_ ?_
        rotate_left 2
        · simp only [List.getElem?_toArray, List.getElem?_cons_succ, List.getElem?_cons_zero]
          exact rfl
        · rfl
        · intro w hSw
          (try dsimp only at hSw)
          go_simp
          try with_reducible rfl
        try simp only [Act.put, List.setIfInBounds_toArray, List.set_cons_zero, List.set_cons_succ]
        refine Hd.take 4 5 (oi := ?_) (v := ?_) ?_ (by kernel_rfl) (fun _ _ _ h => h) hH0 ?_ ?_ ?_
        rotate_left 2
        · simp only [List.getElem?_toArray, List.getElem?_cons_succ, List.getElem?_cons_zero]
          exact rfl
        · rfl
        · intro w hSw
          (try dsimp only at hSw)
          go_simp
          try with_reducible rfl
        try simp only [Act.put, List.setIfInBounds_toArray, List.set_cons_zero, List.set_cons_succ]
        refine Hd.take 5 6 (oi := ?_) (v := ?_) ?_ (by kernel_rfl) (fun _ _ _ h => h) hH0 ?_ ?_ ?_
        rotate_left 2
        · simp only [List.getElem?_toArray, List.getElem?_cons_succ, List.getElem?_cons_zero]
          exact rfl
        · rfl
        · intro w hSw
          (try dsimp only at hSw)
          go_simp
          rw [if_neg (by (try simp only [List.length_append, List.length_cons, List.length_nil]); omega)]
        try simp only [Act.put, List.setIfInBounds_toArray, List.set_cons_zero, List.set_cons_succ]
        refine Hd.take 6 14 (oi := ?_) (v := ?_) ?_ (by kernel_rfl) (fun _ _ _ h => h) hH0 ?_ ?_ ?_
        rotate_left 2
        · simp only [List.getElem?_toArray, List.getElem?_cons_succ, List.getElem?_cons_zero]
          exact rfl
        · rfl
        · intro w hSw
          (try dsimp only at hSw)
          go_simp
          rw [if_neg (by (try simp only [List.length_append, List.length_cons, List.length_nil]); omega)]
        try simp only [Act.put, List.setIfInBounds_toArray, List.set_cons_zero, List.set_cons_succ]
        refine Hd.take 7 8 (oi := ?_) (v := ?_) ?_ (by kernel_rfl) (fun _ _ _ h => h) hH0 ?_ ?_ ?_
        rotate_left 2
        · simp only [List.getElem?_toArray, List.getElem?_cons_succ, List.getElem?_cons_zero]
          exact rfl
        · rfl
        · intro w hSw
          (try dsimp only at hSw)
          go_simp
          try with_reducible rfl
        try simp only [Act.put, List.setIfInBounds_toArray, List.set_cons_zero, List.set_cons_succ]
        refine Hd.take 8 11 (oi := ?_) (v := ?_) ?_ (by kernel_rfl) (fun _ _ _ h => h) hH0 ?_ ?_ ?_
        rotate_left 2
        · simp only [List.getElem?_toArray, List.getElem?_cons_succ, List.getElem?_cons_zero]
          exact rfl
        · rfl
        · intro w hSw
          (try dsimp only at hSw)
          go_simp
          try with_reducible rfl
        try simp only [Act.put, List.setIfInBounds_toArray, List.set_cons_zero, List.set_cons_succ]
        refine Hd.take 9 10 (oi := ?_) (v := ?_) ?_ (by kernel_rfl) (fun _ _ _ h => h) hH0 ?_ ?_ ?_
        rotate_left 2
        · simp only [List.getElem?_toArray, List.getElem?_cons_succ, List.getElem?_cons_zero]
          exact rfl
        · rfl
        · intro w hSw
          (try dsimp only at hSw)
          go_simp
          try with_reducible rfl
        try simp only [Act.put, List.setIfInBounds_toArray, List.set_cons_zero, List.set_cons_succ]
        refine Hd.take 10 11 (oi := ?_) (v := ?_) ?_ (by kernel_rfl) (fun _ _ _ h => h) hH0 ?_ ?_ ?_
        rotate_left 2
        · simp only [List.getElem?_toArray, List.getElem?_cons_succ, List.getElem?_cons_zero]
          exact rfl
        · rfl
        · intro w hSw
          (try dsimp only at hSw)
          go_simp
          try with_reducible rfl
        try simp only [Act.put, List.setIfInBounds_toArray, List.set_cons_zero, List.set_cons_succ]
        refine Hd.take 11 12 (oi := ?_) (v := ?_) ?_ (by kernel_rfl) (fun _ _ _ h => h) hH0 ?_ ?_ ?_
        rotate_left 2
        · simp only [List.getElem?_toArray, List.getElem?_cons_succ, List.getElem?_cons_zero]
          exact rfl
        · rfl
        · intro w hSw
          (try dsimp only at hSw)
          go_simp
          try with_reducible rfl
        try simp only [Act.put, List.setIfInBounds_toArray, List.set_cons_zero, List.set_cons_succ]
        refine Hd.take 12 13 (oi := ?_) (v := ?_) ?_ (by kernel_rfl) (fun _ _ _ h => h) hH0 ?_ ?_ ?_
        rotate_left 2
        · simp only [List.getElem?_toArray, List.getElem?_cons_succ, List.getElem?_cons_zero]
          exact rfl
        · rfl
        · intro w hSw
          (try dsimp only at hSw)
          go_simp
          try with_reducible rfl
        try simp only [Act.put, List.setIfInBounds_toArray, List.set_cons_zero, List.set_cons_succ]
        refine Hd.one 13 13 (o := ?_) ?_ (by kernel_rfl) (fun K hK => ?_)
        rotate_left 1
        · simp only [List.getElem?_toArray, List.getElem?_cons_succ, List.getElem?_cons_zero]
          exact rfl
        go_simp
        refine (HIN.out _ HB0.out).mono ?_; rintro e w4 ⟨rfl, hbd⟩
        have HB1 := Lib.hid (HB0.out.trans (hbd.mono HB0.out.size))
        clear hbd
        go_wp2_with fail
        refine hK.out _ _ (hS.out _ HB1.out) (fun hH1 => ?_)
        clear hK K
        try simp only [Act.put, List.setIfInBounds_toArray, List.set_cons_zero, List.set_cons_succ]
        refine Hd.take 14 15 (oi := ?_) (v := ?_) ?_ (by kernel_rfl) (fun _ _ _ h => h) hH1 ?_ ?_ ?_
        rotate_left 2
        · simp only [List.getElem?_toArray, List.getElem?_cons_succ, List.getElem?_cons_zero]
          exact rfl
        · rfl
        · intro w hSw
          (try dsimp only at hSw)
          go_simp
          rw [if_neg (by (try simp only [List.length_append, List.length_cons, List.length_nil]); omega)]
        try simp only [Act.put, List.setIfInBounds_toArray, List.set_cons_zero, List.set_cons_succ]
        refine Hd.last 15 (o := ?_) ?_ (by kernel_rfl) (by kernel_rfl) (by kernel_rfl) (fun K hK => ?_)
        rotate_left 1
        · simp only [List.getElem?_toArray, List.getElem?_cons_succ, List.getElem?_cons_zero]
          exact rfl
        go_simp
        refine hK.out _ _ ?_
        clear hK K
        try simp only [Act.put, List.setIfInBounds_toArray, List.set_cons_zero, List.set_cons_succ]
        simp only [NoPanic]
        go_wp2_with fail
        exact ⟨⟨k + 1, J ++ (P ++ ([32] ++ G)), by simp, by omega, by first | exact congrArg Value.string (cat4 _ _ [32] _) | rfl | simp | (rw [cat_b]; simp), Lib.hid (by rw [← HNX.out]), HBE.out.trans (HB1.out.mono HBE.out.size)⟩, by simp only [intOf]; omega⟩
      · have K0 := Lib.hid k0
        have hd0 : decide (0 < k) = true := decide_eq_true (by omega)
        clear k0
        have HNX : Hid ((J ++ [32]) ++ (P ++ ([32] ++ G)) = joinF [32] GF (k + 1)) := Lib.hid (by rw [joinF_succ, ← hJ.out, if_neg K0.out, hgf]; simp)
        have hbd := HBD.out (k + 1) (by omega)
        rw [← HNX.out] at hbd
        simp only [List.length_append, List.length_cons, List.length_nil] at hbd
        have hcat0 : (⟨J.toArray⟩ : ByteArray) ++ ⟨#[32]⟩ = ⟨(J ++ [32]).toArray⟩ := cat_b J [32]
        have hle0 : (J ++ [32]).length = J.length + 1 := by simp
        obtain ⟨JJ, hJJ⟩ : ∃ j, J ++ [32] = j := ⟨_, rfl⟩
        have HJJ := Lib.hid hJJ
        have hjl : JJ.length + P.length + 1 + G.length ≤ 1000000000 := by rw [← hJJ, hle0]; omega
        clear hgf hJ
        go_upto_region 13 with fail
        try rw [hJJ]
        clear hJJ
        have HB0 : Hid (Below wr.heap.size wr wr.drew) := Lib.hid (Below.refl _ wr).drew
        refine wp_region_noPanic ?_
        refine Hd.start (fun v => v.cell? ⟨w.heap.size, 3, none⟩ = some (.slice (some ⟨gb, off, none⟩) n1 kc) ∧ v.cell? ⟨g2, o2 + k, none⟩ = some (.string ⟨P.toArray⟩) ∧ (v.cell? ⟨gb, off + (k + 1) * 6, none⟩ = some (.int .i64 y.kind) ∧ v.cell? ⟨gb, off + (k + 1) * 6 + 1, none⟩ = some (.string ⟨y.name.toArray⟩) ∧ v.cell? ⟨gb, off + (k + 1) * 6 + 2, none⟩ = some (.int .i64 y.num) ∧ v.cell? ⟨gb, off + (k + 1) * 6 + 3, none⟩ = some (.slice yka y.kids.length ykc) ∧ v.cell? ⟨gb, off + (k + 1) * 6 + 4, none⟩ = some (.slice yna y.names.length ync) ∧ v.cell? ⟨gb, off + (k + 1) * 6 + 5, none⟩ = some (.int .i64 y.at_))) (by kernel_rfl) (hS.out _ HB0.out) (fun hH0 => ?_)
        refine Hd.take 0 5 (oi := ?_) (v := ?_) ?_ (by kernel_rfl) (fun _ _ _ h => h) hH0 ?_ ?_ ?_
        rotate_left 2
        · simp only [List.getElem?_toArray, List.getElem?_cons_zero]
          exact rfl
        · rfl
        · intro w hSw
          (try dsimp only at hSw)
          go_simp
          try with_reducible rfl
        try simp only [Act.put, List.setIfInBounds_toArray, List.set_cons_zero, List.set_cons_succ]
        refine Hd.take 1 3 (oi := ?_) (v := ?_) ?_ (by kernel_rfl) (fun _ _ _ h => h) hH0 ?_ ?_ ?_
        rotate_left 2
        · simp only [List.getElem?_toArray, List.getElem?_cons_succ, List.getElem?_cons_zero]
          exact rfl
        · rfl
        · intro w hSw
          (try dsimp only at hSw)
          go_simp
          try with_reducible rfl
        try simp only [Act.put, List.setIfInBounds_toArray, List.set_cons_zero, List.set_cons_succ]
        refine Hd.take 2 3 (oi := ?_) (v := ?_) ?_ (by kernel_rfl) (fun _ _ _ h => h) hH0 ?_ ?_ ?_
        rotate_left 2
        · simp only [List.getElem?_toArray, List.getElem?_cons_succ, List.getElem?_cons_zero]
          exact rfl
        · rfl
        · intro w hSw
          (try dsimp only at hSw)
          go_simp
          try with_reducible rfl
        try simp only [Act.put, List.setIfInBounds_toArray, List.set_cons_zero, List.set_cons_succ]
        refine Hd.take 3 4 (oi := ?_) (v := ?_) ?_ (by kernel_rfl) (fun _ _ _ h => h) hH0 ?_ ?_ ?_
        rotate_left 2
        · simp only [List.getElem?_toArray, List.getElem?_cons_succ, List.getElem?_cons_zero]
          exact rfl
        · rfl
        · intro w hSw
          (try dsimp only at hSw)
          go_simp
          try with_reducible rfl
        try simp only [Act.put, List.setIfInBounds_toArray, List.set_cons_zero, List.set_cons_succ]
        refine Hd.take 4 5 (oi := ?_) (v := ?_) ?_ (by kernel_rfl) (fun _ _ _ h => h) hH0 ?_ ?_ ?_
        rotate_left 2
        · simp only [List.getElem?_toArray, List.getElem?_cons_succ, List.getElem?_cons_zero]
          exact rfl
        · rfl
        · intro w hSw
          (try dsimp only at hSw)
          go_simp
          try with_reducible rfl
        try simp only [Act.put, List.setIfInBounds_toArray, List.set_cons_zero, List.set_cons_succ]
        refine Hd.take 5 6 (oi := ?_) (v := ?_) ?_ (by kernel_rfl) (fun _ _ _ h => h) hH0 ?_ ?_ ?_
        rotate_left 2
        · simp only [List.getElem?_toArray, List.getElem?_cons_succ, List.getElem?_cons_zero]
          exact rfl
        · rfl
        · intro w hSw
          (try dsimp only at hSw)
          go_simp
          rw [if_neg (by (try simp only [List.length_append, List.length_cons, List.length_nil]); omega)]
        try simp only [Act.put, List.setIfInBounds_toArray, List.set_cons_zero, List.set_cons_succ]
        refine Hd.take 6 14 (oi := ?_) (v := ?_) ?_ (by kernel_rfl) (fun _ _ _ h => h) hH0 ?_ ?_ ?_
        rotate_left 2
        · simp only [List.getElem?_toArray, List.getElem?_cons_succ, List.getElem?_cons_zero]
          exact rfl
        · rfl
        · intro w hSw
          (try dsimp only at hSw)
          go_simp
          rw [if_neg (by (try simp only [List.length_append, List.length_cons, List.length_nil]); omega)]
        try simp only [Act.put, List.setIfInBounds_toArray, List.set_cons_zero, List.set_cons_succ]
        refine Hd.take 7 8 (oi := ?_) (v := ?_) ?_ (by kernel_rfl) (fun _ _ _ h => h) hH0 ?_ ?_ ?_
        rotate_left 2
        · simp only [List.getElem?_toArray, List.getElem?_cons_succ, List.getElem?_cons_zero]
          exact rfl
        · rfl
        · intro w hSw
          (try dsimp only at hSw)
          go_simp
          try with_reducible rfl
        try simp only [Act.put, List.setIfInBounds_toArray, List.set_cons_zero, List.set_cons_succ]
        refine Hd.take 8 11 (oi := ?_) (v := ?_) ?_ (by kernel_rfl) (fun _ _ _ h => h) hH0 ?_ ?_ ?_
        rotate_left 2
        · simp only [List.getElem?_toArray, List.getElem?_cons_succ, List.getElem?_cons_zero]
          exact rfl
        · rfl
        · intro w hSw
          (try dsimp only at hSw)
          go_simp
          try with_reducible rfl
        try simp only [Act.put, List.setIfInBounds_toArray, List.set_cons_zero, List.set_cons_succ]
        refine Hd.take 9 10 (oi := ?_) (v := ?_) ?_ (by kernel_rfl) (fun _ _ _ h => h) hH0 ?_ ?_ ?_
        rotate_left 2
        · simp only [List.getElem?_toArray, List.getElem?_cons_succ, List.getElem?_cons_zero]
          exact rfl
        · rfl
        · intro w hSw
          (try dsimp only at hSw)
          go_simp
          try with_reducible rfl
        try simp only [Act.put, List.setIfInBounds_toArray, List.set_cons_zero, List.set_cons_succ]
        refine Hd.take 10 11 (oi := ?_) (v := ?_) ?_ (by kernel_rfl) (fun _ _ _ h => h) hH0 ?_ ?_ ?_
        rotate_left 2
        · simp only [List.getElem?_toArray, List.getElem?_cons_succ, List.getElem?_cons_zero]
          exact rfl
        · rfl
        · intro w hSw
          (try dsimp only at hSw)
          go_simp
          try with_reducible rfl
        try simp only [Act.put, List.setIfInBounds_toArray, List.set_cons_zero, List.set_cons_succ]
        refine Hd.take 11 12 (oi := ?_) (v := ?_) ?_ (by kernel_rfl) (fun _ _ _ h => h) hH0 ?_ ?_ ?_
        rotate_left 2
        · simp only [List.getElem?_toArray, List.getElem?_cons_succ, List.getElem?_cons_zero]
          exact rfl
        · rfl
        · intro w hSw
          (try dsimp only at hSw)
          go_simp
          try with_reducible rfl
        try simp only [Act.put, List.setIfInBounds_toArray, List.set_cons_zero, List.set_cons_succ]
        refine Hd.take 12 13 (oi := ?_) (v := ?_) ?_ (by kernel_rfl) (fun _ _ _ h => h) hH0 ?_ ?_ ?_
        rotate_left 2
        · simp only [List.getElem?_toArray, List.getElem?_cons_succ, List.getElem?_cons_zero]
          exact rfl
        · rfl
        · intro w hSw
          (try dsimp only at hSw)
          go_simp
          try with_reducible rfl
        try simp only [Act.put, List.setIfInBounds_toArray, List.set_cons_zero, List.set_cons_succ]
        refine Hd.one 13 13 (o := ?_) ?_ (by kernel_rfl) (fun K hK => ?_)
        rotate_left 1
        · simp only [List.getElem?_toArray, List.getElem?_cons_succ, List.getElem?_cons_zero]
          exact rfl
        go_simp
        refine (HIN.out _ HB0.out).mono ?_; rintro e w4 ⟨rfl, hbd⟩
        have HB1 := Lib.hid (HB0.out.trans (hbd.mono HB0.out.size))
        clear hbd
        go_wp2_with fail
        refine hK.out _ _ (hS.out _ HB1.out) (fun hH1 => ?_)
        clear hK K
        try simp only [Act.put, List.setIfInBounds_toArray, List.set_cons_zero, List.set_cons_succ]
        refine Hd.take 14 15 (oi := ?_) (v := ?_) ?_ (by kernel_rfl) (fun _ _ _ h => h) hH1 ?_ ?_ ?_
        rotate_left 2
        · simp only [List.getElem?_toArray, List.getElem?_cons_succ, List.getElem?_cons_zero]
          exact rfl
        · rfl
        · intro w hSw
          (try dsimp only at hSw)
          go_simp
          rw [if_neg (by (try simp only [List.length_append, List.length_cons, List.length_nil]); omega)]
        try simp only [Act.put, List.setIfInBounds_toArray, List.set_cons_zero, List.set_cons_succ]
        refine Hd.last 15 (o := ?_) ?_ (by kernel_rfl) (by kernel_rfl) (by kernel_rfl) (fun K hK => ?_)
        rotate_left 1
        · simp only [List.getElem?_toArray, List.getElem?_cons_succ, List.getElem?_cons_zero]
          exact rfl
        go_simp
        refine hK.out _ _ ?_
        clear hK K
        try simp only [Act.put, List.setIfInBounds_toArray, List.set_cons_zero, List.set_cons_succ]
        simp only [NoPanic]
        go_wp2_with fail
        exact ⟨⟨k + 1, JJ ++ (P ++ ([32] ++ G)), by simp, by omega, by first | exact congrArg Value.string (cat4 _ _ [32] _) | rfl | simp | (rw [cat_b]; simp), Lib.hid (by rw [← HNX.out, HJJ.out]), HBE.out.trans (HB1.out.mono HBE.out.size)⟩, by simp only [intOf]; omega⟩
    · obtain rfl : k = N := by omega
      have hdec : decide ((k : Int) < (k : Int)) = false := by simp
      clear hbel
      go_wp2_with fail
      go_ret
      exact ⟨by rw [hJ.out]; rfl, (HX.out.trans (HB2R.out.mono HX.out.size))⟩
theorem cat3 (a b c : Bytes) : (⟨a.toArray⟩ : ByteArray) ++ ⟨b.toArray⟩ ++ ⟨c.toArray⟩ = ⟨(a ++ (b ++ c)).toArray⟩ := by rw [cat_b, cat_b]; simp
set_option maxRecDepth 100000 in
set_option maxHeartbeats 3200000 in
theorem rsend_any {x : Nd} (ha : 0 ≤ Lx.arityL x.name) (hkl : 1 ≤ x.kids.length) (hI : RIns (kid x 0)) (hM : RMsg x) (hsz : (sendT txt x).length ≤ 1000000000) : RSnd x := by
  intro kv nv w hk hn
  obtain ⟨ka, kc, rfl, -, -⟩ := hk.form
  obtain ⟨na, nc, rfl, -, -⟩ := hn.form
  have hX := alloc_bel w (.cells #[.int .i64 x.kind, .string ⟨x.name.toArray⟩, .int .i64 x.num, .slice ka x.kids.length kc, .slice na x.names.length nc, .int .i64 x.at_] 45)
  have hbk := Blk.made (T := 45) (cs := #[.int .i64 x.kind, .string ⟨x.name.toArray⟩, .int .i64 x.num, .slice ka x.kids.length kc, .slice na x.names.length nc, .int .i64 x.at_]) w
  obtain ⟨w2, hw⟩ : ∃ v, w.alloc (.cells #[.int .i64 x.kind, .string ⟨x.name.toArray⟩, .int .i64 x.num, .slice ka x.kids.length kc, .slice na x.names.length nc, .int .i64 x.at_] 45) = v := ⟨_, rfl⟩
  rw [hw] at hX hbk
  have hk2 := hk.bel hX
  have hn2 := hn.below hX
  have HKN : Hid (∀ v, Calls Tryz.prog 47 #[.string ⟨x.name.toArray⟩] v (Done (.int .i64 (3 - rankS x.name)) v)) := Lib.hid (fun v => by
    obtain ⟨h1, h2, -⟩ := ar_cases ha
    have := rkind_any x.name (by cases hx : x.name with | nil => exact absurd hx h1 | cons a b => simp) (by omega) v
    rw [kind_rank ha] at this
    exact this)
  obtain ⟨n1, hn1⟩ : ∃ n, x.kids.length = n := ⟨_, rfl⟩
  rw [hn1] at hkl hk2 hbk hw
  have hcg : ∀ v, Below w2.heap.size w2 v → Calls Tryz.prog 121 #[.agg #[.int .i64 x.kind, .string ⟨x.name.toArray⟩, .int .i64 x.num, .slice ka n1 kc, .slice na x.names.length nc, .int .i64 x.at_]] v (Back (strV (msgT txt x)) v) := fun v hv => by
    have := hM _ _ v (hk2.bel hv) (hn2.below hv)
    unfold ndV at this
    exact this
  obtain ⟨gb, off, y, yka, ykc, yna, ync, rfl, hy, hgb, -, hrow, hyt, hyn⟩ := hk2.nth 0 (by omega)
  rw [kid_at hy] at hI
  obtain ⟨MT, hMT⟩ : ∃ m, msgT txt x = m := ⟨_, rfl⟩
  obtain ⟨G, HG⟩ : ∃ G, leastT (if rankS x.name = 3 then 3 else 2) y (txt y).1 = G := ⟨_, rfl⟩
  have hm : sendT txt x = G ++ ([32] ++ MT) := by unfold sendT; rw [kid_at hy, hMT, HG]
  rw [hm] at hsz ⊢
  rw [hMT] at hcg
  unfold strV at hcg
  simp only [List.length_append, List.length_cons, List.length_nil] at hsz
  have HMS := Lib.hid hcg
  have hS : Hid (∀ v, Below w2.heap.size w2 v → (v.cell? ⟨w.heap.size, 0, none⟩ = some (.int .i64 x.kind) ∧ v.cell? ⟨w.heap.size, 1, none⟩ = some (.string ⟨x.name.toArray⟩) ∧ v.cell? ⟨w.heap.size, 2, none⟩ = some (.int .i64 x.num) ∧ v.cell? ⟨w.heap.size, 3, none⟩ = some (.slice (some ⟨gb, off, none⟩) n1 kc) ∧ v.cell? ⟨w.heap.size, 4, none⟩ = some (.slice na x.names.length nc) ∧ v.cell? ⟨w.heap.size, 5, none⟩ = some (.int .i64 x.at_) ∧ (v.cell? ⟨gb, off, none⟩ = some (.int .i64 y.kind) ∧ v.cell? ⟨gb, off + 1, none⟩ = some (.string ⟨y.name.toArray⟩) ∧ v.cell? ⟨gb, off + 2, none⟩ = some (.int .i64 y.num) ∧ v.cell? ⟨gb, off + 3, none⟩ = some (.slice yka y.kids.length ykc) ∧ v.cell? ⟨gb, off + 4, none⟩ = some (.slice yna y.names.length ync) ∧ v.cell? ⟨gb, off + 5, none⟩ = some (.int .i64 y.at_)))) := Lib.hid (fun v hv => by
    have hb := hbk.below hv hbk.lt
    obtain ⟨r0, r1, r2, r3, r4, r5⟩ := hrow.kp (w' := v) (fun i => hv.cell (p := ⟨gb, i, none⟩) hgb)
    rw [show off + 0 * 6 = off by omega] at r0 r1 r2 r3 r4 r5
    exact ⟨hb.c 0 _ rfl, hb.c 1 _ rfl, hb.c 2 _ rfl, hb.c 3 _ rfl, hb.c 4 _ rfl, hb.c 5 _ rfl, r0, r1, r2, r3, r4, r5⟩)
  have HW := Lib.hid hw
  have HX := Lib.hid hX
  have HI := Lib.hid hI
  have HYT := Lib.hid (And.intro hyt hyn)
  have HRC := rank_cases ha
  have hn10 : (0 : Int) < (n1 : Int) := by omega
  have hn00 : 0 < n1 := by omega
  have c1 : w2.cell? ⟨w.heap.size, 1, none⟩ = some (.string ⟨x.name.toArray⟩) := hbk.c 1 _ rfl
  unfold ndV strV
  rw [hn1]
  clear hX hbk hw hk hn hk2 hn2 hm ha hrow hyt hyn hI hy hMT hcg hM hn1
  have hrr : rankS x.name = 3 ∨ rankS x.name = 2 ∨ rankS x.name = 1 := by
    rcases HRC with h | h | h
    · exact .inl h.1
    · exact .inr (.inl h.1)
    · exact .inr (.inr h.1)
  clear HRC
  rcases hrr with r | r | r
  · rw [r] at HKN
    have HIN : Hid (∀ v, Below w2.heap.size w2 v → Calls Tryz.prog 138 #[.agg #[.int .i64 y.kind, .string ⟨y.name.toArray⟩, .int .i64 y.num, .slice yka y.kids.length ykc, .slice yna y.names.length ync, .int .i64 y.at_], .int .i64 0] v (Back (.string ⟨G.toArray⟩) v)) := Lib.hid (fun v hv => by
      have := HI.out 0 (.inl rfl) _ _ v (HYT.out.1.bel hv) (HYT.out.2.below hv)
      rw [show rkW 0 = 3 from rfl] at this
      rw [r, if_pos rfl] at HG
      rw [HG] at this
      exact this)
    clear HG
    go_enter Tryz.func120, Tryz.ntmps120
    go_wp2_with fail
    rw [HW.out]
    refine (HKN.out _).mono ?_; rintro e w9 ⟨rfl, rfl⟩
    go_upto_region 7 with fail
    have HB0 : Hid (Below w2.heap.size w2 w2.drew) := Lib.hid (Below.refl _ w2).drew
    refine wp_region_noPanic ?_
    refine Hd.start (fun v => v.cell? ⟨w.heap.size, 0, none⟩ = some (.int .i64 x.kind) ∧ v.cell? ⟨w.heap.size, 1, none⟩ = some (.string ⟨x.name.toArray⟩) ∧ v.cell? ⟨w.heap.size, 2, none⟩ = some (.int .i64 x.num) ∧ v.cell? ⟨w.heap.size, 3, none⟩ = some (.slice (some ⟨gb, off, none⟩) n1 kc) ∧ v.cell? ⟨w.heap.size, 4, none⟩ = some (.slice na x.names.length nc) ∧ v.cell? ⟨w.heap.size, 5, none⟩ = some (.int .i64 x.at_) ∧ (v.cell? ⟨gb, off, none⟩ = some (.int .i64 y.kind) ∧ v.cell? ⟨gb, off + 1, none⟩ = some (.string ⟨y.name.toArray⟩) ∧ v.cell? ⟨gb, off + 2, none⟩ = some (.int .i64 y.num) ∧ v.cell? ⟨gb, off + 3, none⟩ = some (.slice yka y.kids.length ykc) ∧ v.cell? ⟨gb, off + 4, none⟩ = some (.slice yna y.names.length ync) ∧ v.cell? ⟨gb, off + 5, none⟩ = some (.int .i64 y.at_))) (by kernel_rfl) (hS.out _ HB0.out) (fun hH0 => ?_)
    refine Hd.take 0 1 (oi := ?_) (v := ?_) ?_ (by kernel_rfl) (fun _ _ _ h => h) hH0 ?_ ?_ ?_
    rotate_left 2
    · simp only [List.getElem?_toArray, List.getElem?_cons_zero]
      exact rfl
    · rfl
    · intro w hSw
      (try dsimp only at hSw)
      go_simp
      try with_reducible rfl
    try simp only [Act.put, List.setIfInBounds_toArray, List.set_cons_zero, List.set_cons_succ]
    refine Hd.take 1 2 (oi := ?_) (v := ?_) ?_ (by kernel_rfl) (fun _ _ _ h => h) hH0 ?_ ?_ ?_
    rotate_left 2
    · simp only [List.getElem?_toArray, List.getElem?_cons_succ, List.getElem?_cons_zero]
      exact rfl
    · rfl
    · intro w hSw
      (try dsimp only at hSw)
      go_simp
      try with_reducible rfl
    try simp only [Act.put, List.setIfInBounds_toArray, List.set_cons_zero, List.set_cons_succ]
    refine Hd.take 2 3 (oi := ?_) (v := ?_) ?_ (by kernel_rfl) (fun _ _ _ h => h) hH0 ?_ ?_ ?_
    rotate_left 2
    · simp only [List.getElem?_toArray, List.getElem?_cons_succ, List.getElem?_cons_zero]
      exact rfl
    · rfl
    · intro w hSw
      (try dsimp only at hSw)
      go_simp
      try with_reducible rfl
    try simp only [Act.put, List.setIfInBounds_toArray, List.set_cons_zero, List.set_cons_succ]
    refine Hd.take 3 5 (oi := ?_) (v := ?_) ?_ (by kernel_rfl) (fun _ _ _ h => h) hH0 ?_ ?_ ?_
    rotate_left 2
    · simp only [List.getElem?_toArray, List.getElem?_cons_succ, List.getElem?_cons_zero]
      exact rfl
    · rfl
    · intro w hSw
      (try dsimp only at hSw)
      go_simp
      try with_reducible rfl
    try simp only [Act.put, List.setIfInBounds_toArray, List.set_cons_zero, List.set_cons_succ]
    refine Hd.take 4 5 (oi := ?_) (v := ?_) ?_ (by kernel_rfl) (fun _ _ _ h => h) hH0 ?_ ?_ ?_
    rotate_left 2
    · simp only [List.getElem?_toArray, List.getElem?_cons_succ, List.getElem?_cons_zero]
      exact rfl
    · rfl
    · intro w hSw
      (try dsimp only at hSw)
      go_simp
      try with_reducible rfl
    try simp only [Act.put, List.setIfInBounds_toArray, List.set_cons_zero, List.set_cons_succ]
    refine Hd.take 7 8 (oi := ?_) (v := ?_) ?_ (by kernel_rfl) (fun _ _ _ h => h) hH0 ?_ ?_ ?_
    rotate_left 2
    · simp only [List.getElem?_toArray, List.getElem?_cons_succ, List.getElem?_cons_zero]
      exact rfl
    · rfl
    · intro w hSw
      (try dsimp only at hSw)
      go_simp
      try with_reducible rfl
    try simp only [Act.put, List.setIfInBounds_toArray, List.set_cons_zero, List.set_cons_succ]
    refine Hd.one 5 5 (o := ?_) ?_ (by kernel_rfl) (fun K hK => ?_)
    rotate_left 1
    · simp only [List.getElem?_toArray, List.getElem?_cons_succ, List.getElem?_cons_zero]
      exact rfl
    go_simp
    refine (HIN.out _ HB0.out).mono ?_; rintro e w4 ⟨rfl, hbd⟩
    have HB1 := Lib.hid (HB0.out.trans (hbd.mono HB0.out.size))
    clear hbd
    go_wp2_with fail
    refine hK.out _ _ (hS.out _ HB1.out) (fun hH1 => ?_)
    clear hK K
    try simp only [Act.put, List.setIfInBounds_toArray, List.set_cons_zero, List.set_cons_succ]
    refine Hd.take 6 9 (oi := ?_) (v := ?_) ?_ (by kernel_rfl) (fun _ _ _ h => h) hH1 ?_ ?_ ?_
    rotate_left 2
    · simp only [List.getElem?_toArray, List.getElem?_cons_succ, List.getElem?_cons_zero]
      exact rfl
    · rfl
    · intro w hSw
      (try dsimp only at hSw)
      go_simp
      rw [if_neg (by (try simp only [List.length_append, List.length_cons, List.length_nil]); omega)]
    try simp only [Act.put, List.setIfInBounds_toArray, List.set_cons_zero, List.set_cons_succ]
    refine Hd.one 8 8 (o := ?_) ?_ (by kernel_rfl) (fun K hK => ?_)
    rotate_left 1
    · simp only [List.getElem?_toArray, List.getElem?_cons_succ, List.getElem?_cons_zero]
      exact rfl
    go_simp
    refine (HMS.out _ HB1.out).mono ?_; rintro e w5 ⟨rfl, hbd⟩
    have HB2 := Lib.hid (HB1.out.trans (hbd.mono HB1.out.size))
    clear hbd
    go_wp2_with fail
    refine hK.out _ _ (hS.out _ HB2.out) (fun hH2 => ?_)
    clear hK K
    try simp only [Act.put, List.setIfInBounds_toArray, List.set_cons_zero, List.set_cons_succ]
    refine Hd.take 9 10 (oi := ?_) (v := ?_) ?_ (by kernel_rfl) (fun _ _ _ h => h) hH2 ?_ ?_ ?_
    rotate_left 2
    · simp only [List.getElem?_toArray, List.getElem?_cons_succ, List.getElem?_cons_zero]
      exact rfl
    · rfl
    · intro w hSw
      (try dsimp only at hSw)
      go_simp
      rw [if_neg (by (try simp only [List.length_append, List.length_cons, List.length_nil]); omega)]
    try simp only [Act.put, List.setIfInBounds_toArray, List.set_cons_zero, List.set_cons_succ]
    refine Hd.last 10 (o := ?_) ?_ (by kernel_rfl) (by kernel_rfl) (by kernel_rfl) (fun K hK => ?_)
    rotate_left 1
    · simp only [List.getElem?_toArray, List.getElem?_cons_succ, List.getElem?_cons_zero]
      exact rfl
    go_simp
    refine hK.out _ _ ?_
    clear hK K
    try simp only [Act.put, List.setIfInBounds_toArray, List.set_cons_zero, List.set_cons_succ]
    simp only [NoPanic]
    go_wp2_with fail
    go_ret
    exact ⟨by first | (simp; done) | (simp; exact cat3 _ [32] _), HX.out.trans (HB2.out.mono HX.out.size)⟩
  · rw [r] at HKN
    have HIN : Hid (∀ v, Below w2.heap.size w2 v → Calls Tryz.prog 138 #[.agg #[.int .i64 y.kind, .string ⟨y.name.toArray⟩, .int .i64 y.num, .slice yka y.kids.length ykc, .slice yna y.names.length ync, .int .i64 y.at_], .int .i64 1] v (Back (.string ⟨G.toArray⟩) v)) := Lib.hid (fun v hv => by
      have := HI.out 1 (.inr (.inl rfl)) _ _ v (HYT.out.1.bel hv) (HYT.out.2.below hv)
      rw [show rkW 1 = 2 from rfl] at this
      rw [r, if_neg (by decide)] at HG
      rw [HG] at this
      exact this)
    clear HG
    go_enter Tryz.func120, Tryz.ntmps120
    go_wp2_with fail
    rw [HW.out]
    refine (HKN.out _).mono ?_; rintro e w9 ⟨rfl, rfl⟩
    go_upto_region 7 with fail
    have HB0 : Hid (Below w2.heap.size w2 w2.drew) := Lib.hid (Below.refl _ w2).drew
    refine wp_region_noPanic ?_
    refine Hd.start (fun v => v.cell? ⟨w.heap.size, 0, none⟩ = some (.int .i64 x.kind) ∧ v.cell? ⟨w.heap.size, 1, none⟩ = some (.string ⟨x.name.toArray⟩) ∧ v.cell? ⟨w.heap.size, 2, none⟩ = some (.int .i64 x.num) ∧ v.cell? ⟨w.heap.size, 3, none⟩ = some (.slice (some ⟨gb, off, none⟩) n1 kc) ∧ v.cell? ⟨w.heap.size, 4, none⟩ = some (.slice na x.names.length nc) ∧ v.cell? ⟨w.heap.size, 5, none⟩ = some (.int .i64 x.at_) ∧ (v.cell? ⟨gb, off, none⟩ = some (.int .i64 y.kind) ∧ v.cell? ⟨gb, off + 1, none⟩ = some (.string ⟨y.name.toArray⟩) ∧ v.cell? ⟨gb, off + 2, none⟩ = some (.int .i64 y.num) ∧ v.cell? ⟨gb, off + 3, none⟩ = some (.slice yka y.kids.length ykc) ∧ v.cell? ⟨gb, off + 4, none⟩ = some (.slice yna y.names.length ync) ∧ v.cell? ⟨gb, off + 5, none⟩ = some (.int .i64 y.at_))) (by kernel_rfl) (hS.out _ HB0.out) (fun hH0 => ?_)
    refine Hd.take 0 1 (oi := ?_) (v := ?_) ?_ (by kernel_rfl) (fun _ _ _ h => h) hH0 ?_ ?_ ?_
    rotate_left 2
    · simp only [List.getElem?_toArray, List.getElem?_cons_zero]
      exact rfl
    · rfl
    · intro w hSw
      (try dsimp only at hSw)
      go_simp
      try with_reducible rfl
    try simp only [Act.put, List.setIfInBounds_toArray, List.set_cons_zero, List.set_cons_succ]
    refine Hd.take 1 2 (oi := ?_) (v := ?_) ?_ (by kernel_rfl) (fun _ _ _ h => h) hH0 ?_ ?_ ?_
    rotate_left 2
    · simp only [List.getElem?_toArray, List.getElem?_cons_succ, List.getElem?_cons_zero]
      exact rfl
    · rfl
    · intro w hSw
      (try dsimp only at hSw)
      go_simp
      try with_reducible rfl
    try simp only [Act.put, List.setIfInBounds_toArray, List.set_cons_zero, List.set_cons_succ]
    refine Hd.take 2 3 (oi := ?_) (v := ?_) ?_ (by kernel_rfl) (fun _ _ _ h => h) hH0 ?_ ?_ ?_
    rotate_left 2
    · simp only [List.getElem?_toArray, List.getElem?_cons_succ, List.getElem?_cons_zero]
      exact rfl
    · rfl
    · intro w hSw
      (try dsimp only at hSw)
      go_simp
      try with_reducible rfl
    try simp only [Act.put, List.setIfInBounds_toArray, List.set_cons_zero, List.set_cons_succ]
    refine Hd.take 3 5 (oi := ?_) (v := ?_) ?_ (by kernel_rfl) (fun _ _ _ h => h) hH0 ?_ ?_ ?_
    rotate_left 2
    · simp only [List.getElem?_toArray, List.getElem?_cons_succ, List.getElem?_cons_zero]
      exact rfl
    · rfl
    · intro w hSw
      (try dsimp only at hSw)
      go_simp
      try with_reducible rfl
    try simp only [Act.put, List.setIfInBounds_toArray, List.set_cons_zero, List.set_cons_succ]
    refine Hd.take 4 5 (oi := ?_) (v := ?_) ?_ (by kernel_rfl) (fun _ _ _ h => h) hH0 ?_ ?_ ?_
    rotate_left 2
    · simp only [List.getElem?_toArray, List.getElem?_cons_succ, List.getElem?_cons_zero]
      exact rfl
    · rfl
    · intro w hSw
      (try dsimp only at hSw)
      go_simp
      try with_reducible rfl
    try simp only [Act.put, List.setIfInBounds_toArray, List.set_cons_zero, List.set_cons_succ]
    refine Hd.take 7 8 (oi := ?_) (v := ?_) ?_ (by kernel_rfl) (fun _ _ _ h => h) hH0 ?_ ?_ ?_
    rotate_left 2
    · simp only [List.getElem?_toArray, List.getElem?_cons_succ, List.getElem?_cons_zero]
      exact rfl
    · rfl
    · intro w hSw
      (try dsimp only at hSw)
      go_simp
      try with_reducible rfl
    try simp only [Act.put, List.setIfInBounds_toArray, List.set_cons_zero, List.set_cons_succ]
    refine Hd.one 5 5 (o := ?_) ?_ (by kernel_rfl) (fun K hK => ?_)
    rotate_left 1
    · simp only [List.getElem?_toArray, List.getElem?_cons_succ, List.getElem?_cons_zero]
      exact rfl
    go_simp
    refine (HIN.out _ HB0.out).mono ?_; rintro e w4 ⟨rfl, hbd⟩
    have HB1 := Lib.hid (HB0.out.trans (hbd.mono HB0.out.size))
    clear hbd
    go_wp2_with fail
    refine hK.out _ _ (hS.out _ HB1.out) (fun hH1 => ?_)
    clear hK K
    try simp only [Act.put, List.setIfInBounds_toArray, List.set_cons_zero, List.set_cons_succ]
    refine Hd.take 6 9 (oi := ?_) (v := ?_) ?_ (by kernel_rfl) (fun _ _ _ h => h) hH1 ?_ ?_ ?_
    rotate_left 2
    · simp only [List.getElem?_toArray, List.getElem?_cons_succ, List.getElem?_cons_zero]
      exact rfl
    · rfl
    · intro w hSw
      (try dsimp only at hSw)
      go_simp
      rw [if_neg (by (try simp only [List.length_append, List.length_cons, List.length_nil]); omega)]
    try simp only [Act.put, List.setIfInBounds_toArray, List.set_cons_zero, List.set_cons_succ]
    refine Hd.one 8 8 (o := ?_) ?_ (by kernel_rfl) (fun K hK => ?_)
    rotate_left 1
    · simp only [List.getElem?_toArray, List.getElem?_cons_succ, List.getElem?_cons_zero]
      exact rfl
    go_simp
    refine (HMS.out _ HB1.out).mono ?_; rintro e w5 ⟨rfl, hbd⟩
    have HB2 := Lib.hid (HB1.out.trans (hbd.mono HB1.out.size))
    clear hbd
    go_wp2_with fail
    refine hK.out _ _ (hS.out _ HB2.out) (fun hH2 => ?_)
    clear hK K
    try simp only [Act.put, List.setIfInBounds_toArray, List.set_cons_zero, List.set_cons_succ]
    refine Hd.take 9 10 (oi := ?_) (v := ?_) ?_ (by kernel_rfl) (fun _ _ _ h => h) hH2 ?_ ?_ ?_
    rotate_left 2
    · simp only [List.getElem?_toArray, List.getElem?_cons_succ, List.getElem?_cons_zero]
      exact rfl
    · rfl
    · intro w hSw
      (try dsimp only at hSw)
      go_simp
      rw [if_neg (by (try simp only [List.length_append, List.length_cons, List.length_nil]); omega)]
    try simp only [Act.put, List.setIfInBounds_toArray, List.set_cons_zero, List.set_cons_succ]
    refine Hd.last 10 (o := ?_) ?_ (by kernel_rfl) (by kernel_rfl) (by kernel_rfl) (fun K hK => ?_)
    rotate_left 1
    · simp only [List.getElem?_toArray, List.getElem?_cons_succ, List.getElem?_cons_zero]
      exact rfl
    go_simp
    refine hK.out _ _ ?_
    clear hK K
    try simp only [Act.put, List.setIfInBounds_toArray, List.set_cons_zero, List.set_cons_succ]
    simp only [NoPanic]
    go_wp2_with fail
    go_ret
    exact ⟨by first | (simp; done) | (simp; exact cat3 _ [32] _), HX.out.trans (HB2.out.mono HX.out.size)⟩
  · rw [r] at HKN
    have HIN : Hid (∀ v, Below w2.heap.size w2 v → Calls Tryz.prog 138 #[.agg #[.int .i64 y.kind, .string ⟨y.name.toArray⟩, .int .i64 y.num, .slice yka y.kids.length ykc, .slice yna y.names.length ync, .int .i64 y.at_], .int .i64 3] v (Back (.string ⟨G.toArray⟩) v)) := Lib.hid (fun v hv => by
      have := HI.out 3 (.inr (.inr (.inr rfl))) _ _ v (HYT.out.1.bel hv) (HYT.out.2.below hv)
      rw [show rkW 3 = 2 from rfl] at this
      rw [r, if_neg (by decide)] at HG
      rw [HG] at this
      exact this)
    clear HG
    go_enter Tryz.func120, Tryz.ntmps120
    go_wp2_with fail
    rw [HW.out]
    refine (HKN.out _).mono ?_; rintro e w9 ⟨rfl, rfl⟩
    go_upto_region 7 with fail
    have HB0 : Hid (Below w2.heap.size w2 w2.drew) := Lib.hid (Below.refl _ w2).drew
    refine wp_region_noPanic ?_
    refine Hd.start (fun v => v.cell? ⟨w.heap.size, 0, none⟩ = some (.int .i64 x.kind) ∧ v.cell? ⟨w.heap.size, 1, none⟩ = some (.string ⟨x.name.toArray⟩) ∧ v.cell? ⟨w.heap.size, 2, none⟩ = some (.int .i64 x.num) ∧ v.cell? ⟨w.heap.size, 3, none⟩ = some (.slice (some ⟨gb, off, none⟩) n1 kc) ∧ v.cell? ⟨w.heap.size, 4, none⟩ = some (.slice na x.names.length nc) ∧ v.cell? ⟨w.heap.size, 5, none⟩ = some (.int .i64 x.at_) ∧ (v.cell? ⟨gb, off, none⟩ = some (.int .i64 y.kind) ∧ v.cell? ⟨gb, off + 1, none⟩ = some (.string ⟨y.name.toArray⟩) ∧ v.cell? ⟨gb, off + 2, none⟩ = some (.int .i64 y.num) ∧ v.cell? ⟨gb, off + 3, none⟩ = some (.slice yka y.kids.length ykc) ∧ v.cell? ⟨gb, off + 4, none⟩ = some (.slice yna y.names.length ync) ∧ v.cell? ⟨gb, off + 5, none⟩ = some (.int .i64 y.at_))) (by kernel_rfl) (hS.out _ HB0.out) (fun hH0 => ?_)
    refine Hd.take 0 1 (oi := ?_) (v := ?_) ?_ (by kernel_rfl) (fun _ _ _ h => h) hH0 ?_ ?_ ?_
    rotate_left 2
    · simp only [List.getElem?_toArray, List.getElem?_cons_zero]
      exact rfl
    · rfl
    · intro w hSw
      (try dsimp only at hSw)
      go_simp
      try with_reducible rfl
    try simp only [Act.put, List.setIfInBounds_toArray, List.set_cons_zero, List.set_cons_succ]
    refine Hd.take 1 2 (oi := ?_) (v := ?_) ?_ (by kernel_rfl) (fun _ _ _ h => h) hH0 ?_ ?_ ?_
    rotate_left 2
    · simp only [List.getElem?_toArray, List.getElem?_cons_succ, List.getElem?_cons_zero]
      exact rfl
    · rfl
    · intro w hSw
      (try dsimp only at hSw)
      go_simp
      try with_reducible rfl
    try simp only [Act.put, List.setIfInBounds_toArray, List.set_cons_zero, List.set_cons_succ]
    refine Hd.take 2 3 (oi := ?_) (v := ?_) ?_ (by kernel_rfl) (fun _ _ _ h => h) hH0 ?_ ?_ ?_
    rotate_left 2
    · simp only [List.getElem?_toArray, List.getElem?_cons_succ, List.getElem?_cons_zero]
      exact rfl
    · rfl
    · intro w hSw
      (try dsimp only at hSw)
      go_simp
      try with_reducible rfl
    try simp only [Act.put, List.setIfInBounds_toArray, List.set_cons_zero, List.set_cons_succ]
    refine Hd.take 3 5 (oi := ?_) (v := ?_) ?_ (by kernel_rfl) (fun _ _ _ h => h) hH0 ?_ ?_ ?_
    rotate_left 2
    · simp only [List.getElem?_toArray, List.getElem?_cons_succ, List.getElem?_cons_zero]
      exact rfl
    · rfl
    · intro w hSw
      (try dsimp only at hSw)
      go_simp
      try with_reducible rfl
    try simp only [Act.put, List.setIfInBounds_toArray, List.set_cons_zero, List.set_cons_succ]
    refine Hd.take 4 5 (oi := ?_) (v := ?_) ?_ (by kernel_rfl) (fun _ _ _ h => h) hH0 ?_ ?_ ?_
    rotate_left 2
    · simp only [List.getElem?_toArray, List.getElem?_cons_succ, List.getElem?_cons_zero]
      exact rfl
    · rfl
    · intro w hSw
      (try dsimp only at hSw)
      go_simp
      try with_reducible rfl
    try simp only [Act.put, List.setIfInBounds_toArray, List.set_cons_zero, List.set_cons_succ]
    refine Hd.take 7 8 (oi := ?_) (v := ?_) ?_ (by kernel_rfl) (fun _ _ _ h => h) hH0 ?_ ?_ ?_
    rotate_left 2
    · simp only [List.getElem?_toArray, List.getElem?_cons_succ, List.getElem?_cons_zero]
      exact rfl
    · rfl
    · intro w hSw
      (try dsimp only at hSw)
      go_simp
      try with_reducible rfl
    try simp only [Act.put, List.setIfInBounds_toArray, List.set_cons_zero, List.set_cons_succ]
    refine Hd.one 5 5 (o := ?_) ?_ (by kernel_rfl) (fun K hK => ?_)
    rotate_left 1
    · simp only [List.getElem?_toArray, List.getElem?_cons_succ, List.getElem?_cons_zero]
      exact rfl
    go_simp
    refine (HIN.out _ HB0.out).mono ?_; rintro e w4 ⟨rfl, hbd⟩
    have HB1 := Lib.hid (HB0.out.trans (hbd.mono HB0.out.size))
    clear hbd
    go_wp2_with fail
    refine hK.out _ _ (hS.out _ HB1.out) (fun hH1 => ?_)
    clear hK K
    try simp only [Act.put, List.setIfInBounds_toArray, List.set_cons_zero, List.set_cons_succ]
    refine Hd.take 6 9 (oi := ?_) (v := ?_) ?_ (by kernel_rfl) (fun _ _ _ h => h) hH1 ?_ ?_ ?_
    rotate_left 2
    · simp only [List.getElem?_toArray, List.getElem?_cons_succ, List.getElem?_cons_zero]
      exact rfl
    · rfl
    · intro w hSw
      (try dsimp only at hSw)
      go_simp
      rw [if_neg (by (try simp only [List.length_append, List.length_cons, List.length_nil]); omega)]
    try simp only [Act.put, List.setIfInBounds_toArray, List.set_cons_zero, List.set_cons_succ]
    refine Hd.one 8 8 (o := ?_) ?_ (by kernel_rfl) (fun K hK => ?_)
    rotate_left 1
    · simp only [List.getElem?_toArray, List.getElem?_cons_succ, List.getElem?_cons_zero]
      exact rfl
    go_simp
    refine (HMS.out _ HB1.out).mono ?_; rintro e w5 ⟨rfl, hbd⟩
    have HB2 := Lib.hid (HB1.out.trans (hbd.mono HB1.out.size))
    clear hbd
    go_wp2_with fail
    refine hK.out _ _ (hS.out _ HB2.out) (fun hH2 => ?_)
    clear hK K
    try simp only [Act.put, List.setIfInBounds_toArray, List.set_cons_zero, List.set_cons_succ]
    refine Hd.take 9 10 (oi := ?_) (v := ?_) ?_ (by kernel_rfl) (fun _ _ _ h => h) hH2 ?_ ?_ ?_
    rotate_left 2
    · simp only [List.getElem?_toArray, List.getElem?_cons_succ, List.getElem?_cons_zero]
      exact rfl
    · rfl
    · intro w hSw
      (try dsimp only at hSw)
      go_simp
      rw [if_neg (by (try simp only [List.length_append, List.length_cons, List.length_nil]); omega)]
    try simp only [Act.put, List.setIfInBounds_toArray, List.set_cons_zero, List.set_cons_succ]
    refine Hd.last 10 (o := ?_) ?_ (by kernel_rfl) (by kernel_rfl) (by kernel_rfl) (fun K hK => ?_)
    rotate_left 1
    · simp only [List.getElem?_toArray, List.getElem?_cons_succ, List.getElem?_cons_zero]
      exact rfl
    go_simp
    refine hK.out _ _ ?_
    clear hK K
    try simp only [Act.put, List.setIfInBounds_toArray, List.set_cons_zero, List.set_cons_succ]
    simp only [NoPanic]
    go_wp2_with fail
    go_ret
    exact ⟨by first | (simp; done) | (simp; exact cat3 _ [32] _), HX.out.trans (HB2.out.mono HX.out.size)⟩
end Tr
end Go.Proofs.YtfbhokdcnjekiaaGreatDoor
namespace Go.Proofs.YtfbhokdcnjekiaaGreatDoor
open Go.RowKit
namespace Tr
open Bs Sm
theorem ext_tail (c : UInt8) (l : Bytes) : (⟨(c :: l).toArray⟩ : ByteArray).extract 1 (c :: l).length = ⟨l.toArray⟩ := by
  have := ext_l ⟨(c :: l).toArray⟩ 1 (c :: l).length
  apply ByteArray.ext
  apply Array.ext'
  rw [this]
  simp
set_option maxRecDepth 100000 in
set_option maxHeartbeats 6400000 in
theorem relems_any {x : Nd} (hkl : x.kids.length ≤ 1000000) (hS : ∀ y ∈ x.kids, RSp y ∧ y.name.length ≤ 1000000) (hsz : (listT txt x).length ≤ 1000000000) (kv nv : Value) (w : World) (hk : Tree (fun _ => True) w kv x.kids) (hn : Rd (fun _ => True) strV w nv x.names) :
    Calls Tryz.prog 119 #[ndV x kv nv] w (Back (strV (listT txt x)) w) := by
  obtain ⟨i0, hi, hz0, hz1, hz2⟩ := info_parts (show (Tryz.prog.info? ST).map (fun i => (i.zero, i.size, i.bytes)) = some (some (.string ⟨#[]⟩), 1, 16) by kernel_rfl)
  have tsl : Tryz.prog.underlying 22 = some (.slice ST) := by kernel_rfl
  obtain ⟨ka, kc, rfl, -, -⟩ := hk.form
  obtain ⟨na, nc, rfl, -, -⟩ := hn.form
  have hX := alloc_bel w (.cells #[.int .i64 x.kind, .string ⟨x.name.toArray⟩, .int .i64 x.num, .slice ka x.kids.length kc, .slice na x.names.length nc, .int .i64 x.at_] 45)
  have hbk := Blk.made (T := 45) (cs := #[.int .i64 x.kind, .string ⟨x.name.toArray⟩, .int .i64 x.num, .slice ka x.kids.length kc, .slice na x.names.length nc, .int .i64 x.at_]) w
  obtain ⟨w2, hw⟩ : ∃ v, w.alloc (.cells #[.int .i64 x.kind, .string ⟨x.name.toArray⟩, .int .i64 x.num, .slice ka x.kids.length kc, .slice na x.names.length nc, .int .i64 x.at_] 45) = v := ⟨_, rfl⟩
  rw [hw] at hX hbk
  have hk2 := hk.bel hX
  obtain ⟨n, hnn⟩ : ∃ n, x.kids.length = n := ⟨_, rfl⟩
  have HLT : Hid (listT txt x = joinF [32] (fun i => (x.kids.map (elemT txt)).getD i []) n) := Lib.hid (by
    unfold listT
    rw [hnn]
    refine joinF_congr _ _ _ _ (fun i hi => ?_)
    rw [List.getD_eq_getElem?_getD, List.getElem?_map, List.getElem?_eq_getElem (by omega)]
    unfold kid
    rw [List.getD_eq_getElem?_getD, List.getElem?_eq_getElem (by omega)]
    rfl)
  have hlen : (x.kids.map (elemT txt)).length = n := by rw [List.length_map, hnn]
  rw [HLT.out] at hsz ⊢
  rw [hnn] at hk2 hbk hw hkl
  have HW := Lib.hid hw
  have HX := Lib.hid hX
  have HBK := Lib.hid hbk
  have HK2 := Lib.hid hk2
  replace hS := Lib.hid hS
  have HN := Lib.hid hnn
  have HLEN := Lib.hid hlen
  have HSZ := Lib.hid hsz
  unfold ndV strV
  rw [hnn]
  clear hX hbk hw hk hn hk2 hnn hlen hsz
  go_enter Tryz.func119, Tryz.ntmps119
  go_upto_region 1 with fail
  rw [HW.out]
  go_wp2_with fail
  go_loopw [3, 4] (fun v z wr => ∃ (k : Nat), z = .int .i64 (k : Int) ∧ k ≤ n ∧ Hid (wr.ownsRow w2.heap.size ST 1 v k (((x.kids.take k).map (elemT txt)).map strV)) ∧ Below w2.heap.size w2 wr) (fun _ z _ => n - (intOf z).toNat)
  case atStart => exact ⟨0, rfl, Nat.zero_le _, Lib.hid (World.ownsRow_nil _ _ _ _), Below.refl _ _⟩
  case round =>
    obtain ⟨k, rfl, hkk, hown, hbel⟩ := hrel
    have c3 : wr.cell? ⟨w.heap.size, 3, none⟩ = some (.slice ka n kc) := (HBK.out.below hbel HBK.out.lt).c 3 _ rfl
    by_cases hkn : k < n
    · have hdec : decide ((k : Int) < (n : Int)) = true := decide_eq_true (by omega)
      have hkw : IntKind.i64.wrap ((k : Int) + 1) = (k : Int) + 1 := IntWalk.i64_in _ (by omega)
      have hkn1 : (k : Int) < (n : Int) := by omega
      have hk0 : 0 ≤ (k : Int) := by omega
      obtain ⟨gb, off, y, yka, ykc, yna, ync, rfl, hy, hgb, -, ⟨r0, r1, r2, r3, r4, r5⟩, hyt, hyn⟩ := (HK2.out.bel hbel).nth k hkn
      have hym := List.mem_of_getElem? hy
      obtain ⟨K, hK⟩ : ∃ k, y.kind = k := ⟨_, rfl⟩
      have HK := Lib.hid hK
      have hX4 := alloc_bel wr (.cells #[.int .i64 y.kind, .string ⟨y.name.toArray⟩, .int .i64 y.num, .slice yka y.kids.length ykc, .slice yna y.names.length ync, .int .i64 y.at_] 45)
      have hby := Blk.made (T := 45) (cs := #[.int .i64 y.kind, .string ⟨y.name.toArray⟩, .int .i64 y.num, .slice yka y.kids.length ykc, .slice yna y.names.length ync, .int .i64 y.at_]) wr
      obtain ⟨w3, hw3⟩ : ∃ v, wr.alloc (.cells #[.int .i64 y.kind, .string ⟨y.name.toArray⟩, .int .i64 y.num, .slice yka y.kids.length ykc, .slice yna y.names.length ync, .int .i64 y.at_] 45) = v := ⟨_, rfl⟩
      rw [hw3] at hX4 hby
      have HC := (hS.out y hym).1 _ _ w3 (hyt.bel hX4) (hyn.below hX4)
      obtain ⟨T, hT⟩ : ∃ T, (txt y).1 = T := ⟨_, rfl⟩
      obtain ⟨E, hE⟩ : ∃ T, elemT txt y = T := ⟨_, rfl⟩
      rw [hT] at HC
      unfold ndV strV at HC
      have HEL : Hid (elemT txt y = (if y.kind = 4 then [40] ++ ((txt y).2 ++ [41]) else if y.kind = 3 ∧ plainS y.name = true then y.name else (txt y).1)) := Lib.hid rfl
      obtain ⟨ar, har⟩ : ∃ a, Lx.arityL y.name = a := ⟨_, rfl⟩
      have HAR : Hid (∀ v, Calls Tryz.prog 34 #[.string ⟨y.name.toArray⟩] v (Done (.int .i64 ar) v)) := Lib.hid (fun v => by rw [← har]; exact rarity_all y.name v)
      have htk : x.kids.take (k + 1) = x.kids.take k ++ [y] := by rw [List.take_add_one, hy]; rfl
      have HTK : Hid ((((x.kids.take (k + 1)).map (elemT txt)).map strV) = (((x.kids.take k).map (elemT txt)).map strV) ++ [strV E]) := Lib.hid (by rw [htk, List.map_append, List.map_append, ← hE]; rfl)
      rw [hK] at hby hw3 HC r0
      have HW4 := Lib.hid hw3
      have HBY := Lib.hid hby
      have HB2 := Lib.hid (hbel.trans (hX4.mono hbel.size))
      have HO1 := Lib.hid (own_below hown.out hX4)
      replace HC := Lib.hid HC
      clear hy hyt hyn hX4 hby hw3 hym htk hK hown hbel
      by_cases e4 : K = 4
      · have b4 : (K == 4) = true := beq_iff_eq.2 e4
        have b3 : (K == 3) = false := beq_eq_false_iff_ne.2 (by omega)
        have hT4 : T = 35 :: E := by rw [← hT, ← hE, HEL.out, if_pos (by rw [HK.out]; exact e4), txt_eq]; unfold nodeT; rw [if_neg (by rw [HK.out]; omega), if_neg (by rw [HK.out]; omega), if_neg (by rw [HK.out]; omega), if_pos (by rw [HK.out]; exact e4)]; rfl
        have hex : (⟨T.toArray⟩ : ByteArray).extract 1 T.length = ⟨E.toArray⟩ := by rw [hT4]; exact ext_tail 35 E
        have hl1 : (1 : Int) ≤ (T.length : Int) := by rw [hT4]; simp; omega
        have hl1n : 1 ≤ T.length := by rw [hT4]; simp
        clear e4 hT4 hT hE
        go_wp2_with fail
        try rw [HW4.out]
        refine HC.out.mono ?_; rintro e w4 ⟨rfl, hb⟩
        have hk4 := HBY.out.below hb HBY.out.lt
        have e0 : w4.cell? ⟨wr.heap.size, 0, none⟩ = some (.int .i64 K) := hk4.c 0 _ rfl
        have e1 : w4.cell? ⟨wr.heap.size, 1, none⟩ = some (.string ⟨y.name.toArray⟩) := hk4.c 1 _ rfl
        have hb4 := HB2.out.trans (hb.mono HB2.out.size)
        have HO2 := Lib.hid (own_below HO1.out hb)
        clear hb hk4
        go_wp2_with (at_builtin; refine wpList_append_own _ rfl _ _ 22 rfl w2.heap.size ST i0 (.string ⟨#[]⟩) 1 16 tsl hi hz0 hz1 hz2 rfl (by decide) _ _ _ rfl (HO2.out.alloc _) ⟨w4.heap.size, 0, none⟩ 1 1 [.string ⟨E.toArray⟩] rfl rfl (Lx.cells1 w4 ST _) (by intro u hu; simp at hu; subst hu; rfl) (by unfold maxLen; omega) (by omega) (by have := hb4.size; simp; omega) ?_; intro v' w5 hown5 hgrow5 _; have hb5 := (hb4.alloc hb4.size _).grown hgrow5 (by have := hb4.size; simp; omega) (fun k hk => (HO2.out.lt k hk).1); have ho5 := Lib.hid hown5; clear hown5 hgrow5)
        go_wp2_with fail
        exact ⟨⟨k + 1, by simp, by omega, Lib.hid (by rw [HTK.out]; exact ho5.out), hb5⟩, by simp only [intOf]; omega⟩
      have b4 : (K == 4) = false := beq_eq_false_iff_ne.2 e4
      by_cases e3 : K = 3
      case neg =>
        have b3 : (K == 3) = false := beq_eq_false_iff_ne.2 e3
        have hET : E = T := by rw [← hE, HEL.out, if_neg (by rw [HK.out]; exact e4), if_neg (by rw [HK.out]; exact fun h => e3 h.1), hT]
        subst hET
        clear e4 e3 hT hE
        go_wp2_with fail
        try rw [HW4.out]
        refine HC.out.mono ?_; rintro e w4 ⟨rfl, hb⟩
        have hk4 := HBY.out.below hb HBY.out.lt
        have e0 : w4.cell? ⟨wr.heap.size, 0, none⟩ = some (.int .i64 K) := hk4.c 0 _ rfl
        have e1 : w4.cell? ⟨wr.heap.size, 1, none⟩ = some (.string ⟨y.name.toArray⟩) := hk4.c 1 _ rfl
        have hb4 := HB2.out.trans (hb.mono HB2.out.size)
        have HO2 := Lib.hid (own_below HO1.out hb)
        clear hb hk4
        go_wp2_with (at_builtin; refine wpList_append_own _ rfl _ _ 22 rfl w2.heap.size ST i0 (.string ⟨#[]⟩) 1 16 tsl hi hz0 hz1 hz2 rfl (by decide) _ _ _ rfl (HO2.out.alloc _) ⟨w4.heap.size, 0, none⟩ 1 1 [.string ⟨E.toArray⟩] rfl rfl (Lx.cells1 w4 ST _) (by intro u hu; simp at hu; subst hu; rfl) (by unfold maxLen; omega) (by omega) (by have := hb4.size; simp; omega) ?_; intro v' w5 hown5 hgrow5 _; have hb5 := (hb4.alloc hb4.size _).grown hgrow5 (by have := hb4.size; simp; omega) (fun k hk => (HO2.out.lt k hk).1); have ho5 := Lib.hid hown5; clear hown5 hgrow5)
        go_wp2_with fail
        exact ⟨⟨k + 1, by simp, by omega, Lib.hid (by rw [HTK.out]; exact ho5.out), hb5⟩, by simp only [intOf]; omega⟩
      have b3 : (K == 3) = true := beq_iff_eq.2 e3
      have hsym : E = if plainS y.name = true then y.name else T := by rw [← hE, HEL.out, if_neg (by rw [HK.out]; exact e4), ← hT]; by_cases hp : plainS y.name = true; rw [if_pos ⟨by rw [HK.out]; exact e3, hp⟩, if_pos hp]; rw [if_neg (fun h => hp h.2), if_neg hp]
      clear hT hE e3 e4
      unfold plainS at hsym
      rw [har] at hsym
      by_cases a0 : 0 ≤ ar
      case neg =>
        have d0 : decide (0 ≤ ar) = false := decide_eq_false a0
        have hET : E = T := by rw [hsym, d0]; simp
        subst hET
        clear a0 hsym
        go_wp2_with fail
        try rw [HW4.out]
        refine HC.out.mono ?_; rintro e w4 ⟨rfl, hb⟩
        have hk4 := HBY.out.below hb HBY.out.lt
        have e0 : w4.cell? ⟨wr.heap.size, 0, none⟩ = some (.int .i64 K) := hk4.c 0 _ rfl
        have e1 : w4.cell? ⟨wr.heap.size, 1, none⟩ = some (.string ⟨y.name.toArray⟩) := hk4.c 1 _ rfl
        have hb4 := HB2.out.trans (hb.mono HB2.out.size)
        have HO2 := Lib.hid (own_below HO1.out hb)
        clear hb hk4
        go_wp2_with fail
        refine (HAR.out _).mono ?_; rintro e w9 ⟨rfl, rfl⟩
        go_wp2_with (at_builtin; refine wpList_append_own _ rfl _ _ 22 rfl w2.heap.size ST i0 (.string ⟨#[]⟩) 1 16 tsl hi hz0 hz1 hz2 rfl (by decide) _ _ _ rfl (HO2.out.alloc _) ⟨w4.heap.size, 0, none⟩ 1 1 [.string ⟨E.toArray⟩] rfl rfl (Lx.cells1 w4 ST _) (by intro u hu; simp at hu; subst hu; rfl) (by unfold maxLen; omega) (by omega) (by have := hb4.size; simp; omega) ?_; intro v' w5 hown5 hgrow5 _; have hb5 := (hb4.alloc hb4.size _).grown hgrow5 (by have := hb4.size; simp; omega) (fun k hk => (HO2.out.lt k hk).1); have ho5 := Lib.hid hown5; clear hown5 hgrow5)
        go_wp2_with fail
        exact ⟨⟨k + 1, by simp, by omega, Lib.hid (by rw [HTK.out]; exact ho5.out), hb5⟩, by simp only [intOf]; omega⟩
      have d0 : decide (0 ≤ ar) = true := decide_eq_true a0
      clear a0
      by_cases aq1 : y.name = [124]
      case pos =>
        have bq1 : (y.name == [124]) = true := beq_iff_eq.2 aq1
        have hET : E = T := by rw [hsym, aq1]; simp
        subst hET
        have Aq1 := Lib.hid aq1
        clear aq1 hsym
        go_wp2_with fail
        try rw [HW4.out]
        refine HC.out.mono ?_; rintro e w4 ⟨rfl, hb⟩
        have hk4 := HBY.out.below hb HBY.out.lt
        have e0 : w4.cell? ⟨wr.heap.size, 0, none⟩ = some (.int .i64 K) := hk4.c 0 _ rfl
        have e1 : w4.cell? ⟨wr.heap.size, 1, none⟩ = some (.string ⟨y.name.toArray⟩) := hk4.c 1 _ rfl
        have hb4 := HB2.out.trans (hb.mono HB2.out.size)
        have HO2 := Lib.hid (own_below HO1.out hb)
        clear hb hk4
        go_wp2_with fail
        refine (HAR.out _).mono ?_; rintro e w9 ⟨rfl, rfl⟩
        go_wp2_with (at_builtin; refine wpList_append_own _ rfl _ _ 22 rfl w2.heap.size ST i0 (.string ⟨#[]⟩) 1 16 tsl hi hz0 hz1 hz2 rfl (by decide) _ _ _ rfl (HO2.out.alloc _) ⟨w4.heap.size, 0, none⟩ 1 1 [.string ⟨E.toArray⟩] rfl rfl (Lx.cells1 w4 ST _) (by intro u hu; simp at hu; subst hu; rfl) (by unfold maxLen; omega) (by omega) (by have := hb4.size; simp; omega) ?_; intro v' w5 hown5 hgrow5 _; have hb5 := (hb4.alloc hb4.size _).grown hgrow5 (by have := hb4.size; simp; omega) (fun k hk => (HO2.out.lt k hk).1); have ho5 := Lib.hid hown5; clear hown5 hgrow5)
        go_wp2_with fail
        exact ⟨⟨k + 1, by simp, by omega, Lib.hid (by rw [HTK.out]; exact ho5.out), hb5⟩, by simp only [intOf]; omega⟩
      have bq1 : (y.name == [124]) = false := beq_eq_false_iff_ne.2 aq1
      have Aq1 := Lib.hid aq1
      clear aq1
      by_cases aq2 : y.name = [116, 114, 117, 101]
      case pos =>
        have bq2 : (y.name == [116, 114, 117, 101]) = true := beq_iff_eq.2 aq2
        have hET : E = T := by rw [hsym, aq2]; simp
        subst hET
        have Aq2 := Lib.hid aq2
        clear aq2 hsym
        go_wp2_with fail
        try rw [HW4.out]
        refine HC.out.mono ?_; rintro e w4 ⟨rfl, hb⟩
        have hk4 := HBY.out.below hb HBY.out.lt
        have e0 : w4.cell? ⟨wr.heap.size, 0, none⟩ = some (.int .i64 K) := hk4.c 0 _ rfl
        have e1 : w4.cell? ⟨wr.heap.size, 1, none⟩ = some (.string ⟨y.name.toArray⟩) := hk4.c 1 _ rfl
        have hb4 := HB2.out.trans (hb.mono HB2.out.size)
        have HO2 := Lib.hid (own_below HO1.out hb)
        clear hb hk4
        go_wp2_with fail
        refine (HAR.out _).mono ?_; rintro e w9 ⟨rfl, rfl⟩
        go_wp2_with (at_builtin; refine wpList_append_own _ rfl _ _ 22 rfl w2.heap.size ST i0 (.string ⟨#[]⟩) 1 16 tsl hi hz0 hz1 hz2 rfl (by decide) _ _ _ rfl (HO2.out.alloc _) ⟨w4.heap.size, 0, none⟩ 1 1 [.string ⟨E.toArray⟩] rfl rfl (Lx.cells1 w4 ST _) (by intro u hu; simp at hu; subst hu; rfl) (by unfold maxLen; omega) (by omega) (by have := hb4.size; simp; omega) ?_; intro v' w5 hown5 hgrow5 _; have hb5 := (hb4.alloc hb4.size _).grown hgrow5 (by have := hb4.size; simp; omega) (fun k hk => (HO2.out.lt k hk).1); have ho5 := Lib.hid hown5; clear hown5 hgrow5)
        go_wp2_with fail
        exact ⟨⟨k + 1, by simp, by omega, Lib.hid (by rw [HTK.out]; exact ho5.out), hb5⟩, by simp only [intOf]; omega⟩
      have bq2 : (y.name == [116, 114, 117, 101]) = false := beq_eq_false_iff_ne.2 aq2
      have Aq2 := Lib.hid aq2
      clear aq2
      by_cases aq3 : y.name = [102, 97, 108, 115, 101]
      case pos =>
        have bq3 : (y.name == [102, 97, 108, 115, 101]) = true := beq_iff_eq.2 aq3
        have hET : E = T := by rw [hsym, aq3]; simp
        subst hET
        have Aq3 := Lib.hid aq3
        clear aq3 hsym
        go_wp2_with fail
        try rw [HW4.out]
        refine HC.out.mono ?_; rintro e w4 ⟨rfl, hb⟩
        have hk4 := HBY.out.below hb HBY.out.lt
        have e0 : w4.cell? ⟨wr.heap.size, 0, none⟩ = some (.int .i64 K) := hk4.c 0 _ rfl
        have e1 : w4.cell? ⟨wr.heap.size, 1, none⟩ = some (.string ⟨y.name.toArray⟩) := hk4.c 1 _ rfl
        have hb4 := HB2.out.trans (hb.mono HB2.out.size)
        have HO2 := Lib.hid (own_below HO1.out hb)
        clear hb hk4
        go_wp2_with fail
        refine (HAR.out _).mono ?_; rintro e w9 ⟨rfl, rfl⟩
        go_wp2_with (at_builtin; refine wpList_append_own _ rfl _ _ 22 rfl w2.heap.size ST i0 (.string ⟨#[]⟩) 1 16 tsl hi hz0 hz1 hz2 rfl (by decide) _ _ _ rfl (HO2.out.alloc _) ⟨w4.heap.size, 0, none⟩ 1 1 [.string ⟨E.toArray⟩] rfl rfl (Lx.cells1 w4 ST _) (by intro u hu; simp at hu; subst hu; rfl) (by unfold maxLen; omega) (by omega) (by have := hb4.size; simp; omega) ?_; intro v' w5 hown5 hgrow5 _; have hb5 := (hb4.alloc hb4.size _).grown hgrow5 (by have := hb4.size; simp; omega) (fun k hk => (HO2.out.lt k hk).1); have ho5 := Lib.hid hown5; clear hown5 hgrow5)
        go_wp2_with fail
        exact ⟨⟨k + 1, by simp, by omega, Lib.hid (by rw [HTK.out]; exact ho5.out), hb5⟩, by simp only [intOf]; omega⟩
      have bq3 : (y.name == [102, 97, 108, 115, 101]) = false := beq_eq_false_iff_ne.2 aq3
      have Aq3 := Lib.hid aq3
      clear aq3
      by_cases aq4 : y.name = [110, 105, 108]
      case pos =>
        have bq4 : (y.name == [110, 105, 108]) = true := beq_iff_eq.2 aq4
        have hET : E = T := by rw [hsym, aq4]; simp
        subst hET
        have Aq4 := Lib.hid aq4
        clear aq4 hsym
        go_wp2_with fail
        try rw [HW4.out]
        refine HC.out.mono ?_; rintro e w4 ⟨rfl, hb⟩
        have hk4 := HBY.out.below hb HBY.out.lt
        have e0 : w4.cell? ⟨wr.heap.size, 0, none⟩ = some (.int .i64 K) := hk4.c 0 _ rfl
        have e1 : w4.cell? ⟨wr.heap.size, 1, none⟩ = some (.string ⟨y.name.toArray⟩) := hk4.c 1 _ rfl
        have hb4 := HB2.out.trans (hb.mono HB2.out.size)
        have HO2 := Lib.hid (own_below HO1.out hb)
        clear hb hk4
        go_wp2_with fail
        refine (HAR.out _).mono ?_; rintro e w9 ⟨rfl, rfl⟩
        go_wp2_with (at_builtin; refine wpList_append_own _ rfl _ _ 22 rfl w2.heap.size ST i0 (.string ⟨#[]⟩) 1 16 tsl hi hz0 hz1 hz2 rfl (by decide) _ _ _ rfl (HO2.out.alloc _) ⟨w4.heap.size, 0, none⟩ 1 1 [.string ⟨E.toArray⟩] rfl rfl (Lx.cells1 w4 ST _) (by intro u hu; simp at hu; subst hu; rfl) (by unfold maxLen; omega) (by omega) (by have := hb4.size; simp; omega) ?_; intro v' w5 hown5 hgrow5 _; have hb5 := (hb4.alloc hb4.size _).grown hgrow5 (by have := hb4.size; simp; omega) (fun k hk => (HO2.out.lt k hk).1); have ho5 := Lib.hid hown5; clear hown5 hgrow5)
        go_wp2_with fail
        exact ⟨⟨k + 1, by simp, by omega, Lib.hid (by rw [HTK.out]; exact ho5.out), hb5⟩, by simp only [intOf]; omega⟩
      have bq4 : (y.name == [110, 105, 108]) = false := beq_eq_false_iff_ne.2 aq4
      have Aq4 := Lib.hid aq4
      clear aq4
      have hET : E = y.name := by rw [hsym, d0]; simp [Aq1.out, Aq2.out, Aq3.out, Aq4.out]
      subst hET
      clear hsym
      go_wp2_with fail
      try rw [HW4.out]
      refine HC.out.mono ?_; rintro e w4 ⟨rfl, hb⟩
      have hk4 := HBY.out.below hb HBY.out.lt
      have e0 : w4.cell? ⟨wr.heap.size, 0, none⟩ = some (.int .i64 K) := hk4.c 0 _ rfl
      have e1 : w4.cell? ⟨wr.heap.size, 1, none⟩ = some (.string ⟨y.name.toArray⟩) := hk4.c 1 _ rfl
      have hb4 := HB2.out.trans (hb.mono HB2.out.size)
      have HO2 := Lib.hid (own_below HO1.out hb)
      clear hb hk4
      go_wp2_with fail
      refine (HAR.out _).mono ?_; rintro e w9 ⟨rfl, rfl⟩
      go_wp2_with (at_builtin; refine wpList_append_own _ rfl _ _ 22 rfl w2.heap.size ST i0 (.string ⟨#[]⟩) 1 16 tsl hi hz0 hz1 hz2 rfl (by decide) _ _ _ rfl (HO2.out.alloc _) ⟨w4.heap.size, 0, none⟩ 1 1 [.string ⟨y.name.toArray⟩] rfl rfl (Lx.cells1 w4 ST _) (by intro u hu; simp at hu; subst hu; rfl) (by unfold maxLen; omega) (by omega) (by have := hb4.size; simp; omega) ?_; intro v' w5 hown5 hgrow5 _; have hb5 := (hb4.alloc hb4.size _).grown hgrow5 (by have := hb4.size; simp; omega) (fun k hk => (HO2.out.lt k hk).1); have ho5 := Lib.hid hown5; clear hown5 hgrow5)
      go_wp2_with fail
      exact ⟨⟨k + 1, by simp, by omega, Lib.hid (by rw [HTK.out]; exact ho5.out), hb5⟩, by simp only [intOf]; omega⟩
    · obtain rfl : k = n := by omega
      have hdec : decide ((k : Int) < (k : Int)) = false := by simp
      have hall : x.kids.take k = x.kids := List.take_of_length_le (by rw [HN.out]; exact Nat.le_refl _)
      rw [hall] at hown
      have HRD := rd_row hown.out HLEN.out
      obtain ⟨lo, lc, rfl, -⟩ := own_slice hown.out
      have HJ := Lib.hid (rjoin_any (x.kids.map (elemT txt)) [32] _ wr HRD (by rw [HLEN.out]; exact HSZ.out))
      rw [HLEN.out] at HJ
      unfold strV at HJ
      have HBE := Lib.hid (HX.out.trans (hbel.mono HX.out.size))
      clear hall HRD hown hbel
      go_wp2_with fail
      refine HJ.out.mono ?_; rintro e w9 ⟨rfl, rfl⟩
      go_wp2_with fail
      go_ret
      exact ⟨by first | rfl | simp, HBE.out⟩
end Tr
end Go.Proofs.YtfbhokdcnjekiaaGreatDoor
namespace Go.Proofs.YtfbhokdcnjekiaaGreatDoor
open Go.RowKit
namespace Tr
open Bs Sm
variable {x : Nd}
theorem msg_text {x : Nd} (h : x.kind = 7) : (txt x).1 = sendT txt x ∧ (txt x).2 = msgT txt x := by
  rw [txt_eq]
  simp [nodeT, h]
theorem quote_eq (w : Bytes) : Lx.quoteL w = quoteT w := by
  unfold Lx.quoteL quoteT
  congr 2
  induction w with
  | nil => rfl
  | cons c t ih =>
    rw [List.flatMap_cons, Lx.esc, ih]
    by_cases h : c = 39 <;> simp [h]
set_option maxRecDepth 100000 in
set_option maxHeartbeats 3200000 in
theorem rsp1 (hK : x.kind = 1) (h1 : -9223372036854775808 ≤ x.num) (h2 : x.num ≤ 9223372036854775807) : RSp x := by
  intro kv nv w hk hn
  have hT : (txt x).1 = Lib.itoa x.num := by rw [txt_eq]; simp [nodeT, hK]
  rw [hT]
  obtain ⟨ka, kc, rfl, -, -⟩ := hk.form
  obtain ⟨na, nc, rfl, -, -⟩ := hn.form
  have hX := alloc_bel w (.cells #[.int .i64 1, .string ⟨x.name.toArray⟩, .int .i64 x.num, .slice ka x.kids.length kc, .slice na x.names.length nc, .int .i64 x.at_] 45)
  have hbk := Blk.made (T := 45) (cs := #[.int .i64 1, .string ⟨x.name.toArray⟩, .int .i64 x.num, .slice ka x.kids.length kc, .slice na x.names.length nc, .int .i64 x.at_]) w
  obtain ⟨w2, hw⟩ : ∃ v, w.alloc (.cells #[.int .i64 1, .string ⟨x.name.toArray⟩, .int .i64 x.num, .slice ka x.kids.length kc, .slice na x.names.length nc, .int .i64 x.at_] 45) = v := ⟨_, rfl⟩
  rw [hw] at hX hbk
  have hk2 := hk.bel hX
  have hn2 := hn.below hX
  have c0 : w2.cell? ⟨w.heap.size, 0, none⟩ = some (.int .i64 1) := hbk.c 0 _ rfl
  have c1 : w2.cell? ⟨w.heap.size, 1, none⟩ = some (.string ⟨x.name.toArray⟩) := hbk.c 1 _ rfl
  have c2 : w2.cell? ⟨w.heap.size, 2, none⟩ = some (.int .i64 x.num) := hbk.c 2 _ rfl
  have c3 : w2.cell? ⟨w.heap.size, 3, none⟩ = some (.slice ka x.kids.length kc) := hbk.c 3 _ rfl
  have c4 : w2.cell? ⟨w.heap.size, 4, none⟩ = some (.slice na x.names.length nc) := hbk.c 4 _ rfl
  have c5 : w2.cell? ⟨w.heap.size, 5, none⟩ = some (.int .i64 x.at_) := hbk.c 5 _ rfl
  have HW := Lib.hid hw
  have HX := Lib.hid hX
  have HBK := Lib.hid hbk
  have HC := Lib.hid (Lx.Rt.rtext_any x.num w2 h1 h2)
  clear hX hbk hw hk hn hk2 hn2 hT h1 h2
  unfold ndV strV
  rw [hK]
  clear hK
  go_enter Tryz.func86, Tryz.ntmps86
  go_upto_region 1 with fail
  rw [HW.out]
  go_wp2_with fail
  refine HC.out.mono ?_; rintro e w4 ⟨rfl, hbd⟩
  have HB := Lib.hid (HX.out.trans (hbd.mono HX.out.size))
  clear hbd
  go_wp2_with fail
  go_ret
  exact ⟨rfl, HB.out⟩
set_option maxRecDepth 100000 in
set_option maxHeartbeats 3200000 in
theorem rsp2 (hK : x.kind = 2) (h1 : x.name.length ≤ 1000000) : RSp x := by
  intro kv nv w hk hn
  have hT : (txt x).1 = quoteT x.name := by rw [txt_eq]; simp [nodeT, hK]
  rw [hT]
  obtain ⟨ka, kc, rfl, -, -⟩ := hk.form
  obtain ⟨na, nc, rfl, -, -⟩ := hn.form
  have hX := alloc_bel w (.cells #[.int .i64 2, .string ⟨x.name.toArray⟩, .int .i64 x.num, .slice ka x.kids.length kc, .slice na x.names.length nc, .int .i64 x.at_] 45)
  have hbk := Blk.made (T := 45) (cs := #[.int .i64 2, .string ⟨x.name.toArray⟩, .int .i64 x.num, .slice ka x.kids.length kc, .slice na x.names.length nc, .int .i64 x.at_]) w
  obtain ⟨w2, hw⟩ : ∃ v, w.alloc (.cells #[.int .i64 2, .string ⟨x.name.toArray⟩, .int .i64 x.num, .slice ka x.kids.length kc, .slice na x.names.length nc, .int .i64 x.at_] 45) = v := ⟨_, rfl⟩
  rw [hw] at hX hbk
  have hk2 := hk.bel hX
  have hn2 := hn.below hX
  have c0 : w2.cell? ⟨w.heap.size, 0, none⟩ = some (.int .i64 2) := hbk.c 0 _ rfl
  have c1 : w2.cell? ⟨w.heap.size, 1, none⟩ = some (.string ⟨x.name.toArray⟩) := hbk.c 1 _ rfl
  have c2 : w2.cell? ⟨w.heap.size, 2, none⟩ = some (.int .i64 x.num) := hbk.c 2 _ rfl
  have c3 : w2.cell? ⟨w.heap.size, 3, none⟩ = some (.slice ka x.kids.length kc) := hbk.c 3 _ rfl
  have c4 : w2.cell? ⟨w.heap.size, 4, none⟩ = some (.slice na x.names.length nc) := hbk.c 4 _ rfl
  have c5 : w2.cell? ⟨w.heap.size, 5, none⟩ = some (.int .i64 x.at_) := hbk.c 5 _ rfl
  have HW := Lib.hid hw
  have HX := Lib.hid hX
  have HBK := Lib.hid hbk
  have HC := Lx.rquote_any (s := ⟨x.name.toArray⟩) (w := w2) (show x.name.toArray.size ≤ _ by simp; omega)
  rw [quote_eq] at HC
  obtain ⟨Q, hQ⟩ : ∃ q, quoteT x.name = q := ⟨_, rfl⟩
  rw [hQ]
  have HC : Calls Tryz.prog 117 #[.string ⟨x.name.toArray⟩] w2 (Back (.string ⟨Q.toArray⟩) w2) := by rw [← hQ]; exact HC
  replace HC := Lib.hid HC
  clear hX hbk hw hk hn hk2 hn2 hT h1 hQ
  unfold ndV strV
  rw [hK]
  clear hK
  go_enter Tryz.func86, Tryz.ntmps86
  go_upto_region 1 with fail
  rw [HW.out]
  go_wp2_with fail
  refine HC.out.mono ?_; rintro e w4 ⟨rfl, hbd⟩
  have HB := Lib.hid (HX.out.trans (hbd.mono HX.out.size))
  clear hbd
  go_wp2_with fail
  go_ret
  exact ⟨rfl, HB.out⟩
set_option maxRecDepth 100000 in
set_option maxHeartbeats 3200000 in
theorem rsp5 (hK : x.kind = 5) : RSp x := by
  intro kv nv w hk hn
  have hT : (txt x).1 = x.name := by rw [txt_eq]; simp [nodeT, hK]
  rw [hT]
  obtain ⟨ka, kc, rfl, -, -⟩ := hk.form
  obtain ⟨na, nc, rfl, -, -⟩ := hn.form
  have hX := alloc_bel w (.cells #[.int .i64 5, .string ⟨x.name.toArray⟩, .int .i64 x.num, .slice ka x.kids.length kc, .slice na x.names.length nc, .int .i64 x.at_] 45)
  have hbk := Blk.made (T := 45) (cs := #[.int .i64 5, .string ⟨x.name.toArray⟩, .int .i64 x.num, .slice ka x.kids.length kc, .slice na x.names.length nc, .int .i64 x.at_]) w
  obtain ⟨w2, hw⟩ : ∃ v, w.alloc (.cells #[.int .i64 5, .string ⟨x.name.toArray⟩, .int .i64 x.num, .slice ka x.kids.length kc, .slice na x.names.length nc, .int .i64 x.at_] 45) = v := ⟨_, rfl⟩
  rw [hw] at hX hbk
  have hk2 := hk.bel hX
  have hn2 := hn.below hX
  have c0 : w2.cell? ⟨w.heap.size, 0, none⟩ = some (.int .i64 5) := hbk.c 0 _ rfl
  have c1 : w2.cell? ⟨w.heap.size, 1, none⟩ = some (.string ⟨x.name.toArray⟩) := hbk.c 1 _ rfl
  have c2 : w2.cell? ⟨w.heap.size, 2, none⟩ = some (.int .i64 x.num) := hbk.c 2 _ rfl
  have c3 : w2.cell? ⟨w.heap.size, 3, none⟩ = some (.slice ka x.kids.length kc) := hbk.c 3 _ rfl
  have c4 : w2.cell? ⟨w.heap.size, 4, none⟩ = some (.slice na x.names.length nc) := hbk.c 4 _ rfl
  have c5 : w2.cell? ⟨w.heap.size, 5, none⟩ = some (.int .i64 x.at_) := hbk.c 5 _ rfl
  have HW := Lib.hid hw
  have HX := Lib.hid hX
  have HBK := Lib.hid hbk
  clear hX hbk hw hk hn hk2 hn2 hT
  unfold ndV strV
  rw [hK]
  clear hK
  go_enter Tryz.func86, Tryz.ntmps86
  go_upto_region 1 with fail
  rw [HW.out]
  go_wp2_with fail
  go_ret
  exact ⟨rfl, HX.out⟩
set_option maxRecDepth 100000 in
set_option maxHeartbeats 3200000 in
theorem rsp7 (hK : x.kind = 7) (hS : RSnd x) : RSp x := by
  intro kv nv w hk hn
  have hT : (txt x).1 = sendT txt x := by rw [txt_eq]; simp [nodeT, hK]
  rw [hT]
  obtain ⟨ka, kc, rfl, -, -⟩ := hk.form
  obtain ⟨na, nc, rfl, -, -⟩ := hn.form
  have hX := alloc_bel w (.cells #[.int .i64 7, .string ⟨x.name.toArray⟩, .int .i64 x.num, .slice ka x.kids.length kc, .slice na x.names.length nc, .int .i64 x.at_] 45)
  have hbk := Blk.made (T := 45) (cs := #[.int .i64 7, .string ⟨x.name.toArray⟩, .int .i64 x.num, .slice ka x.kids.length kc, .slice na x.names.length nc, .int .i64 x.at_]) w
  obtain ⟨w2, hw⟩ : ∃ v, w.alloc (.cells #[.int .i64 7, .string ⟨x.name.toArray⟩, .int .i64 x.num, .slice ka x.kids.length kc, .slice na x.names.length nc, .int .i64 x.at_] 45) = v := ⟨_, rfl⟩
  rw [hw] at hX hbk
  have hk2 := hk.bel hX
  have hn2 := hn.below hX
  have c0 : w2.cell? ⟨w.heap.size, 0, none⟩ = some (.int .i64 7) := hbk.c 0 _ rfl
  have c1 : w2.cell? ⟨w.heap.size, 1, none⟩ = some (.string ⟨x.name.toArray⟩) := hbk.c 1 _ rfl
  have c2 : w2.cell? ⟨w.heap.size, 2, none⟩ = some (.int .i64 x.num) := hbk.c 2 _ rfl
  have c3 : w2.cell? ⟨w.heap.size, 3, none⟩ = some (.slice ka x.kids.length kc) := hbk.c 3 _ rfl
  have c4 : w2.cell? ⟨w.heap.size, 4, none⟩ = some (.slice na x.names.length nc) := hbk.c 4 _ rfl
  have c5 : w2.cell? ⟨w.heap.size, 5, none⟩ = some (.int .i64 x.at_) := hbk.c 5 _ rfl
  have HW := Lib.hid hw
  have HX := Lib.hid hX
  have HBK := Lib.hid hbk
  have HC := hS _ _ w2 hk2 hn2
  obtain ⟨Q, hQ⟩ : ∃ q, sendT txt x = q := ⟨_, rfl⟩
  rw [hQ] at HC ⊢
  unfold ndV strV at HC
  rw [hK] at HC
  replace HC := Lib.hid HC
  clear hX hbk hw hk hn hk2 hn2 hT hQ hS
  unfold ndV strV
  rw [hK]
  clear hK
  go_enter Tryz.func86, Tryz.ntmps86
  go_upto_region 1 with fail
  rw [HW.out]
  go_wp2_with fail
  refine HC.out.mono ?_; rintro e w4 ⟨rfl, hbd⟩
  have HB := Lib.hid (HX.out.trans (hbd.mono HX.out.size))
  clear hbd
  go_wp2_with fail
  go_ret
  exact ⟨rfl, HB.out⟩
set_option maxRecDepth 100000 in
set_option maxHeartbeats 3200000 in
theorem rsp4 (hK : x.kind = 4) (hkl : x.kids.length ≤ 1000000) (hS : ∀ y ∈ x.kids, RSp y ∧ y.name.length ≤ 1000000) (hsz : (listT txt x).length ≤ 1000000000) : RSp x := by
  intro kv nv w hk hn
  have hT : (txt x).1 = [35, 40] ++ (listT txt x ++ [41]) := by rw [txt_eq]; simp [nodeT, hK]
  rw [hT]
  obtain ⟨ka, kc, rfl, -, -⟩ := hk.form
  obtain ⟨na, nc, rfl, -, -⟩ := hn.form
  have hX := alloc_bel w (.cells #[.int .i64 4, .string ⟨x.name.toArray⟩, .int .i64 x.num, .slice ka x.kids.length kc, .slice na x.names.length nc, .int .i64 x.at_] 45)
  have hbk := Blk.made (T := 45) (cs := #[.int .i64 4, .string ⟨x.name.toArray⟩, .int .i64 x.num, .slice ka x.kids.length kc, .slice na x.names.length nc, .int .i64 x.at_]) w
  obtain ⟨w2, hw⟩ : ∃ v, w.alloc (.cells #[.int .i64 4, .string ⟨x.name.toArray⟩, .int .i64 x.num, .slice ka x.kids.length kc, .slice na x.names.length nc, .int .i64 x.at_] 45) = v := ⟨_, rfl⟩
  rw [hw] at hX hbk
  have hk2 := hk.bel hX
  have hn2 := hn.below hX
  have c0 : w2.cell? ⟨w.heap.size, 0, none⟩ = some (.int .i64 4) := hbk.c 0 _ rfl
  have c1 : w2.cell? ⟨w.heap.size, 1, none⟩ = some (.string ⟨x.name.toArray⟩) := hbk.c 1 _ rfl
  have c2 : w2.cell? ⟨w.heap.size, 2, none⟩ = some (.int .i64 x.num) := hbk.c 2 _ rfl
  have c3 : w2.cell? ⟨w.heap.size, 3, none⟩ = some (.slice ka x.kids.length kc) := hbk.c 3 _ rfl
  have c4 : w2.cell? ⟨w.heap.size, 4, none⟩ = some (.slice na x.names.length nc) := hbk.c 4 _ rfl
  have c5 : w2.cell? ⟨w.heap.size, 5, none⟩ = some (.int .i64 x.at_) := hbk.c 5 _ rfl
  have HW := Lib.hid hw
  have HX := Lib.hid hX
  have HBK := Lib.hid hbk
  have HC := relems_any hkl hS hsz _ _ w2 hk2 hn2
  obtain ⟨Q, hQ⟩ : ∃ q, listT txt x = q := ⟨_, rfl⟩
  rw [hQ] at HC hsz ⊢
  unfold ndV strV at HC
  rw [hK] at HC
  replace HC := Lib.hid HC
  have hcat1 : (⟨#[35, 40]⟩ : ByteArray) ++ ⟨Q.toArray⟩ = ⟨([35, 40] ++ Q).toArray⟩ := cat_b [35, 40] Q
  have hcat2 : (⟨([35, 40] ++ Q).toArray⟩ : ByteArray) ++ ⟨#[41]⟩ = ⟨([35, 40] ++ (Q ++ [41])).toArray⟩ := by rw [← List.append_assoc]; exact cat_b ([35, 40] ++ Q) [41]
  clear hX hbk hw hk hn hk2 hn2 hT hQ hS hkl
  unfold ndV strV
  rw [hK]
  clear hK
  go_enter Tryz.func86, Tryz.ntmps86
  go_upto_region 1 with fail
  rw [HW.out]
  go_wp2_with fail
  refine HC.out.mono ?_; rintro e w4 ⟨rfl, hbd⟩
  have HB := Lib.hid (HX.out.trans (hbd.mono HX.out.size))
  clear hbd
  go_wp2_with fail
  go_ret
  exact ⟨by first | rfl | (simp; done) | (simp; exact cat3 [35, 40] Q [41]), HB.out⟩
set_option maxRecDepth 100000 in
set_option maxHeartbeats 3200000 in
theorem rsp10 (hK : x.kind = 10) (hkl : 1 ≤ x.kids.length) (hS : RSp (kid x 0)) (hsz : (txt (kid x 0)).1.length ≤ 1000000000) : RSp x := by
  intro kv nv w hk hn
  have hT : (txt x).1 = [94] ++ (txt (kid x 0)).1 := by rw [txt_eq]; simp [nodeT, hK]
  rw [hT]
  obtain ⟨ka, kc, rfl, -, -⟩ := hk.form
  obtain ⟨na, nc, rfl, -, -⟩ := hn.form
  have hX := alloc_bel w (.cells #[.int .i64 10, .string ⟨x.name.toArray⟩, .int .i64 x.num, .slice ka x.kids.length kc, .slice na x.names.length nc, .int .i64 x.at_] 45)
  have hbk := Blk.made (T := 45) (cs := #[.int .i64 10, .string ⟨x.name.toArray⟩, .int .i64 x.num, .slice ka x.kids.length kc, .slice na x.names.length nc, .int .i64 x.at_]) w
  obtain ⟨w2, hw⟩ : ∃ v, w.alloc (.cells #[.int .i64 10, .string ⟨x.name.toArray⟩, .int .i64 x.num, .slice ka x.kids.length kc, .slice na x.names.length nc, .int .i64 x.at_] 45) = v := ⟨_, rfl⟩
  rw [hw] at hX hbk
  have hk2 := hk.bel hX
  have hn2 := hn.below hX
  have c0 : w2.cell? ⟨w.heap.size, 0, none⟩ = some (.int .i64 10) := hbk.c 0 _ rfl
  have c1 : w2.cell? ⟨w.heap.size, 1, none⟩ = some (.string ⟨x.name.toArray⟩) := hbk.c 1 _ rfl
  have c2 : w2.cell? ⟨w.heap.size, 2, none⟩ = some (.int .i64 x.num) := hbk.c 2 _ rfl
  have c3 : w2.cell? ⟨w.heap.size, 3, none⟩ = some (.slice ka x.kids.length kc) := hbk.c 3 _ rfl
  have c4 : w2.cell? ⟨w.heap.size, 4, none⟩ = some (.slice na x.names.length nc) := hbk.c 4 _ rfl
  have c5 : w2.cell? ⟨w.heap.size, 5, none⟩ = some (.int .i64 x.at_) := hbk.c 5 _ rfl
  have HW := Lib.hid hw
  have HX := Lib.hid hX
  have HBK := Lib.hid hbk
  obtain ⟨n1, hn1⟩ : ∃ n, x.kids.length = n := ⟨_, rfl⟩
  rw [hn1] at hkl hk2 hbk hw c3
  replace HW := Lib.hid hw
  replace HBK := Lib.hid hbk
  obtain ⟨gb, off, y, yka, ykc, yna, ync, rfl, hy, hgb, -, ⟨r0, r1, r2, r3, r4, r5⟩, hyt, hyn⟩ := hk2.nth 0 (by omega)
  rw [show off + 0 * 6 = off by omega] at r0 r1 r2 r3 r4 r5
  rw [kid_at hy] at hS hsz ⊢
  have HC := hS _ _ w2 hyt hyn
  obtain ⟨Q, hQ⟩ : ∃ q, (txt y).1 = q := ⟨_, rfl⟩
  rw [hQ] at HC hsz ⊢
  unfold ndV strV at HC
  replace HC := Lib.hid HC
  have hn00 : 0 < n1 := by omega
  have hn01 : (0 : Int) < (n1 : Int) := by omega
  rw [ndV, hn1]
  have hcat1 : (⟨#[94]⟩ : ByteArray) ++ ⟨Q.toArray⟩ = ⟨([94] ++ Q).toArray⟩ := cat_b [94] Q
  clear hX hbk hw hk hn hk2 hn2 hT hQ hS hkl hy hyt hyn hn1
  unfold strV
  rw [hK]
  clear hK
  go_enter Tryz.func86, Tryz.ntmps86
  go_upto_region 1 with fail
  rw [HW.out]
  go_wp2_with fail
  refine HC.out.mono ?_; rintro e w4 ⟨rfl, hbd⟩
  have HB := Lib.hid (HX.out.trans (hbd.mono HX.out.size))
  clear hbd
  go_wp2_with fail
  go_ret
  exact ⟨by first | rfl | (simp; done) | (simp; exact cat_b [94] Q), HB.out⟩
set_option maxRecDepth 100000 in
set_option maxHeartbeats 3200000 in
theorem rsp6 (hK : x.kind = 6) (hnm : x.name.length ≤ 1000000) (hkl : 1 ≤ x.kids.length) (hS : RSp (kid x 0)) (hsz : (txt (kid x 0)).1.length ≤ 1000000000) : RSp x := by
  intro kv nv w hk hn
  have hT : (txt x).1 = x.name ++ ([32, 58, 61, 32] ++ (txt (kid x 0)).1) := by rw [txt_eq]; simp [nodeT, hK]
  rw [hT]
  obtain ⟨ka, kc, rfl, -, -⟩ := hk.form
  obtain ⟨na, nc, rfl, -, -⟩ := hn.form
  have hX := alloc_bel w (.cells #[.int .i64 6, .string ⟨x.name.toArray⟩, .int .i64 x.num, .slice ka x.kids.length kc, .slice na x.names.length nc, .int .i64 x.at_] 45)
  have hbk := Blk.made (T := 45) (cs := #[.int .i64 6, .string ⟨x.name.toArray⟩, .int .i64 x.num, .slice ka x.kids.length kc, .slice na x.names.length nc, .int .i64 x.at_]) w
  obtain ⟨w2, hw⟩ : ∃ v, w.alloc (.cells #[.int .i64 6, .string ⟨x.name.toArray⟩, .int .i64 x.num, .slice ka x.kids.length kc, .slice na x.names.length nc, .int .i64 x.at_] 45) = v := ⟨_, rfl⟩
  rw [hw] at hX hbk
  have hk2 := hk.bel hX
  have hn2 := hn.below hX
  have c0 : w2.cell? ⟨w.heap.size, 0, none⟩ = some (.int .i64 6) := hbk.c 0 _ rfl
  have c1 : w2.cell? ⟨w.heap.size, 1, none⟩ = some (.string ⟨x.name.toArray⟩) := hbk.c 1 _ rfl
  have c2 : w2.cell? ⟨w.heap.size, 2, none⟩ = some (.int .i64 x.num) := hbk.c 2 _ rfl
  have c3 : w2.cell? ⟨w.heap.size, 3, none⟩ = some (.slice ka x.kids.length kc) := hbk.c 3 _ rfl
  have c4 : w2.cell? ⟨w.heap.size, 4, none⟩ = some (.slice na x.names.length nc) := hbk.c 4 _ rfl
  have c5 : w2.cell? ⟨w.heap.size, 5, none⟩ = some (.int .i64 x.at_) := hbk.c 5 _ rfl
  have HW := Lib.hid hw
  have HX := Lib.hid hX
  have HBK := Lib.hid hbk
  obtain ⟨n1, hn1⟩ : ∃ n, x.kids.length = n := ⟨_, rfl⟩
  rw [hn1] at hkl hk2 hbk hw c3
  replace HW := Lib.hid hw
  replace HBK := Lib.hid hbk
  obtain ⟨gb, off, y, yka, ykc, yna, ync, rfl, hy, hgb, -, hrow, hyt, hyn⟩ := hk2.nth 0 (by omega)
  rw [kid_at hy] at hS hsz ⊢
  obtain ⟨Q, hQ⟩ : ∃ q, (txt y).1 = q := ⟨_, rfl⟩
  rw [hQ] at hsz ⊢
  have HC : Hid (∀ v, Below w2.heap.size w2 v → Calls Tryz.prog 86 #[.agg #[.int .i64 y.kind, .string ⟨y.name.toArray⟩, .int .i64 y.num, .slice yka y.kids.length ykc, .slice yna y.names.length ync, .int .i64 y.at_]] v (Back (.string ⟨Q.toArray⟩) v)) := Lib.hid (fun v hv => by
    have := hS _ _ v (hyt.bel hv) (hyn.below hv)
    rw [hQ] at this
    exact this)
  have hS6 : Hid (∀ v, Below w2.heap.size w2 v → (v.cell? ⟨w.heap.size, 1, none⟩ = some (.string ⟨x.name.toArray⟩) ∧ v.cell? ⟨w.heap.size, 3, none⟩ = some (.slice (some ⟨gb, off, none⟩) n1 kc) ∧ (v.cell? ⟨gb, off, none⟩ = some (.int .i64 y.kind) ∧ v.cell? ⟨gb, off + 1, none⟩ = some (.string ⟨y.name.toArray⟩) ∧ v.cell? ⟨gb, off + 2, none⟩ = some (.int .i64 y.num) ∧ v.cell? ⟨gb, off + 3, none⟩ = some (.slice yka y.kids.length ykc) ∧ v.cell? ⟨gb, off + 4, none⟩ = some (.slice yna y.names.length ync) ∧ v.cell? ⟨gb, off + 5, none⟩ = some (.int .i64 y.at_)))) := Lib.hid (fun v hv => by
    have hb := hbk.below hv hbk.lt
    obtain ⟨r0, r1, r2, r3, r4, r5⟩ := hrow.kp (w' := v) (fun i => hv.cell (p := ⟨gb, i, none⟩) hgb)
    rw [show off + 0 * 6 = off by omega] at r0 r1 r2 r3 r4 r5
    exact ⟨hb.c 1 _ rfl, hb.c 3 _ rfl, r0, r1, r2, r3, r4, r5⟩)
  have hn00 : 0 < n1 := by omega
  have hn01 : (0 : Int) < (n1 : Int) := by omega
  rw [ndV, hn1]
  clear hX hbk hw hk hn hk2 hn2 hT hQ hS hkl hy hyt hyn hn1 hrow
  unfold strV
  rw [hK]
  clear hK
  go_enter Tryz.func86, Tryz.ntmps86
  go_upto_region 1 with fail
  rw [HW.out]
  go_upto_region 13 with fail
  have HB0 : Hid (Below w2.heap.size w2 w2.drew) := Lib.hid (Below.refl _ w2).drew
  refine wp_region_noPanic ?_
  refine Hd.start (fun v => v.cell? ⟨w.heap.size, 1, none⟩ = some (.string ⟨x.name.toArray⟩) ∧ v.cell? ⟨w.heap.size, 3, none⟩ = some (.slice (some ⟨gb, off, none⟩) n1 kc) ∧ (v.cell? ⟨gb, off, none⟩ = some (.int .i64 y.kind) ∧ v.cell? ⟨gb, off + 1, none⟩ = some (.string ⟨y.name.toArray⟩) ∧ v.cell? ⟨gb, off + 2, none⟩ = some (.int .i64 y.num) ∧ v.cell? ⟨gb, off + 3, none⟩ = some (.slice yka y.kids.length ykc) ∧ v.cell? ⟨gb, off + 4, none⟩ = some (.slice yna y.names.length ync) ∧ v.cell? ⟨gb, off + 5, none⟩ = some (.int .i64 y.at_))) (by kernel_rfl) (hS6.out _ HB0.out) (fun hH0 => ?_)
  refine Hd.take 0 1 (oi := ?_) (v := ?_) ?_ (by kernel_rfl) (fun _ _ _ h => h) hH0 ?_ ?_ ?_
  rotate_left 2
  · simp only [List.getElem?_toArray, List.getElem?_cons_zero]
    exact rfl
  · rfl
  · intro w hSw
    (try dsimp only at hSw)
    go_simp
    try with_reducible rfl
  try simp only [Act.put, List.setIfInBounds_toArray, List.set_cons_zero, List.set_cons_succ]
  refine Hd.take 1 2 (oi := ?_) (v := ?_) ?_ (by kernel_rfl) (fun _ _ _ h => h) hH0 ?_ ?_ ?_
  rotate_left 2
  · simp only [List.getElem?_toArray, List.getElem?_cons_succ, List.getElem?_cons_zero]
    exact rfl
  · rfl
  · intro w hSw
    (try dsimp only at hSw)
    go_simp
    try with_reducible rfl
  try simp only [Act.put, List.setIfInBounds_toArray, List.set_cons_zero, List.set_cons_succ]
  refine Hd.take 2 8 (oi := ?_) (v := ?_) ?_ (by kernel_rfl) (fun _ _ _ h => h) hH0 ?_ ?_ ?_
  rotate_left 2
  · simp only [List.getElem?_toArray, List.getElem?_cons_succ, List.getElem?_cons_zero]
    exact rfl
  · rfl
  · intro w hSw
    (try dsimp only at hSw)
    go_simp
    rw [if_neg (by (try simp only [List.length_append, List.length_cons, List.length_nil]); omega)]
  try simp only [Act.put, List.setIfInBounds_toArray, List.set_cons_zero, List.set_cons_succ]
  refine Hd.take 3 4 (oi := ?_) (v := ?_) ?_ (by kernel_rfl) (fun _ _ _ h => h) hH0 ?_ ?_ ?_
  rotate_left 2
  · simp only [List.getElem?_toArray, List.getElem?_cons_succ, List.getElem?_cons_zero]
    exact rfl
  · rfl
  · intro w hSw
    (try dsimp only at hSw)
    go_simp
    try with_reducible rfl
  try simp only [Act.put, List.setIfInBounds_toArray, List.set_cons_zero, List.set_cons_succ]
  refine Hd.take 4 5 (oi := ?_) (v := ?_) ?_ (by kernel_rfl) (fun _ _ _ h => h) hH0 ?_ ?_ ?_
  rotate_left 2
  · simp only [List.getElem?_toArray, List.getElem?_cons_succ, List.getElem?_cons_zero]
    exact rfl
  · rfl
  · intro w hSw
    (try dsimp only at hSw)
    go_simp
    try with_reducible rfl
  try simp only [Act.put, List.setIfInBounds_toArray, List.set_cons_zero, List.set_cons_succ]
  refine Hd.take 5 6 (oi := ?_) (v := ?_) ?_ (by kernel_rfl) (fun _ _ _ h => h) hH0 ?_ ?_ ?_
  rotate_left 2
  · simp only [List.getElem?_toArray, List.getElem?_cons_succ, List.getElem?_cons_zero]
    exact rfl
  · rfl
  · intro w hSw
    (try dsimp only at hSw)
    go_simp
    try with_reducible rfl
  try simp only [Act.put, List.setIfInBounds_toArray, List.set_cons_zero, List.set_cons_succ]
  refine Hd.take 6 7 (oi := ?_) (v := ?_) ?_ (by kernel_rfl) (fun _ _ _ h => h) hH0 ?_ ?_ ?_
  rotate_left 2
  · simp only [List.getElem?_toArray, List.getElem?_cons_succ, List.getElem?_cons_zero]
    exact rfl
  · rfl
  · intro w hSw
    (try dsimp only at hSw)
    go_simp
    try with_reducible rfl
  try simp only [Act.put, List.setIfInBounds_toArray, List.set_cons_zero, List.set_cons_succ]
  refine Hd.one 7 7 (o := ?_) ?_ (by kernel_rfl) (fun K hK => ?_)
  rotate_left 1
  · simp only [List.getElem?_toArray, List.getElem?_cons_succ, List.getElem?_cons_zero]
    exact rfl
  go_simp
  refine (HC.out _ HB0.out).mono ?_; rintro e w4 ⟨rfl, hbd⟩
  have HB1 := Lib.hid (HB0.out.trans (hbd.mono HB0.out.size))
  clear hbd
  go_wp2_with fail
  refine hK.out _ _ (hS6.out _ HB1.out) (fun hH1 => ?_)
  clear hK K
  try simp only [Act.put, List.setIfInBounds_toArray, List.set_cons_zero, List.set_cons_succ]
  refine Hd.take 8 9 (oi := ?_) (v := ?_) ?_ (by kernel_rfl) (fun _ _ _ h => h) hH1 ?_ ?_ ?_
  rotate_left 2
  · simp only [List.getElem?_toArray, List.getElem?_cons_succ, List.getElem?_cons_zero]
    exact rfl
  · rfl
  · intro w hSw
    (try dsimp only at hSw)
    go_simp
    rw [if_neg (by (try simp only [List.length_append, List.length_cons, List.length_nil]); omega)]
  try simp only [Act.put, List.setIfInBounds_toArray, List.set_cons_zero, List.set_cons_succ]
  refine Hd.last 9 (o := ?_) ?_ (by kernel_rfl) (by kernel_rfl) (by kernel_rfl) (fun K hK => ?_)
  rotate_left 1
  · simp only [List.getElem?_toArray, List.getElem?_cons_succ, List.getElem?_cons_zero]
    exact rfl
  go_simp
  refine hK.out _ _ ?_
  clear hK K
  try simp only [Act.put, List.setIfInBounds_toArray, List.set_cons_zero, List.set_cons_succ]
  simp only [NoPanic]
  go_wp2_with fail
  go_ret
  exact ⟨by first | rfl | (simp; done) | (simp; exact cat3 _ [32, 58, 61, 32] _), HX.out.trans (HB1.out.mono HX.out.size)⟩
set_option maxRecDepth 100000 in
set_option maxHeartbeats 3200000 in
theorem rsp8 (hK : x.kind = 8) (hkl : 2 ≤ x.kids.length) (hkl2 : x.kids.length ≤ 1000000) (h70 : (kid x 0).kind = 7) (hS : RSnd (kid x 0)) (hM : ∀ i, 0 < i → i < x.kids.length → (kid x i).kind = 7 ∧ RMsg (kid x i)) (hsz : (cascT txt x).length ≤ 1000000000) : RSp x := by
  intro kv nv w hk hn
  have hT : (txt x).1 = cascT txt x := by rw [txt_eq]; simp [nodeT, hK]
  rw [hT]
  obtain ⟨ka, kc, rfl, -, -⟩ := hk.form
  obtain ⟨na, nc, rfl, -, -⟩ := hn.form
  have hX := alloc_bel w (.cells #[.int .i64 8, .string ⟨x.name.toArray⟩, .int .i64 x.num, .slice ka x.kids.length kc, .slice na x.names.length nc, .int .i64 x.at_] 45)
  have hbk := Blk.made (T := 45) (cs := #[.int .i64 8, .string ⟨x.name.toArray⟩, .int .i64 x.num, .slice ka x.kids.length kc, .slice na x.names.length nc, .int .i64 x.at_]) w
  obtain ⟨w2, hw⟩ : ∃ v, w.alloc (.cells #[.int .i64 8, .string ⟨x.name.toArray⟩, .int .i64 x.num, .slice ka x.kids.length kc, .slice na x.names.length nc, .int .i64 x.at_] 45) = v := ⟨_, rfl⟩
  rw [hw] at hX hbk
  have hk2 := hk.bel hX
  have hn2 := hn.below hX
  have c0 : w2.cell? ⟨w.heap.size, 0, none⟩ = some (.int .i64 8) := hbk.c 0 _ rfl
  have c1 : w2.cell? ⟨w.heap.size, 1, none⟩ = some (.string ⟨x.name.toArray⟩) := hbk.c 1 _ rfl
  have c2 : w2.cell? ⟨w.heap.size, 2, none⟩ = some (.int .i64 x.num) := hbk.c 2 _ rfl
  have c3 : w2.cell? ⟨w.heap.size, 3, none⟩ = some (.slice ka x.kids.length kc) := hbk.c 3 _ rfl
  have c4 : w2.cell? ⟨w.heap.size, 4, none⟩ = some (.slice na x.names.length nc) := hbk.c 4 _ rfl
  have c5 : w2.cell? ⟨w.heap.size, 5, none⟩ = some (.int .i64 x.at_) := hbk.c 5 _ rfl
  have HW := Lib.hid hw
  have HX := Lib.hid hX
  have HBK := Lib.hid hbk
  obtain ⟨n1, hn1⟩ : ∃ n, x.kids.length = n := ⟨_, rfl⟩
  rw [hn1] at hkl hkl2 hk2 hbk hw c3 hM
  replace HW := Lib.hid hw
  replace HBK := Lib.hid hbk
  have HK2 := Lib.hid hk2
  obtain ⟨gb, off, y, yka, ykc, yna, ync, rfl, hy, hgb, -, ⟨r0, r1, r2, r3, r4, r5⟩, hyt, hyn⟩ := hk2.nth 0 (by omega)
  rw [show off + 0 * 6 = off by omega] at r0 r1 r2 r3 r4 r5
  rw [kid_at hy] at hS h70
  have HC := hS _ _ w2 hyt hyn
  obtain ⟨Q, hQ⟩ : ∃ q, sendT txt y = q := ⟨_, rfl⟩
  rw [hQ] at HC
  unfold ndV strV at HC
  replace HC := Lib.hid HC
  obtain ⟨GF, hGF⟩ : ∃ g : Nat → Bytes, g = fun i => [59, 32] ++ (txt (kid x (i + 1))).2 := ⟨_, rfl⟩
  have hcs : cascT txt x = Q ++ joinF [] GF (n1 - 1) := by unfold cascT; rw [kid_at hy, (msg_text h70).1, hQ, hn1, hGF]
  rw [hcs] at hsz ⊢
  rw [List.length_append] at hsz
  have HBD : Hid (∀ k, k ≤ n1 - 1 → (joinF [] GF k).length ≤ (joinF [] GF (n1 - 1)).length) := Lib.hid (fun k hk => rjoinF_le [] GF hk)
  have HG9 := Lib.hid hGF
  have HM := Lib.hid hM
  have hn00 : 0 < n1 := by omega
  have hn01 : (0 : Int) < (n1 : Int) := by omega
  rw [ndV, hn1]
  clear hX hbk hw hk hn hk2 hn2 hT hQ hS hy hyt hyn hn1 hM hGF hcs h70
  unfold strV
  rw [hK]
  clear hK
  go_enter Tryz.func86, Tryz.ntmps86
  go_upto_region 1 with fail
  rw [HW.out]
  go_wp2_with fail
  refine HC.out.mono ?_; rintro e w3 ⟨rfl, hb3⟩
  have HB3 := Lib.hid hb3
  clear hb3 c0 c1 c2 c3 c4 c5 r0 r1 r2 r3 r4 r5
  go_wp2_with fail
  go_loopw [3, 4] (fun s y wr => ∃ (k : Nat) (J : Bytes), y = .int .i64 ((k : Int) + 1) ∧ k + 1 ≤ n1 ∧ s = .string ⟨J.toArray⟩ ∧ Hid (J = Q ++ joinF [] GF k) ∧ Below w2.heap.size w2 wr) (fun _ y _ => n1 - (intOf y).toNat)
  case atStart => exact ⟨0, Q, rfl, by omega, rfl, Lib.hid (by rw [joinF_zero, List.append_nil]), HB3.out⟩
  case round =>
    obtain ⟨k, J, rfl, hk, rfl, hJ, hbel⟩ := hrel
    have c3 : wr.cell? ⟨w.heap.size, 3, none⟩ = some (.slice (some ⟨gb, off, none⟩) n1 kc) := (HBK.out.below hbel HBK.out.lt).c 3 _ rfl
    by_cases hkn : k + 1 < n1
    · have hdec : decide ((k : Int) + 1 < (n1 : Int)) = true := decide_eq_true (by omega)
      have hkw : IntKind.i64.wrap ((k : Int) + 1 + 1) = (k : Int) + 1 + 1 := IntWalk.i64_in _ (by omega)
      obtain ⟨gb2, off2, z, zka, zkc, zna, znc, hz0, hz, hgb2, -, ⟨r0, r1, r2, r3, r4, r5⟩, hzt, hzn⟩ := (HK2.out.bel hbel).nth (k + 1) hkn
      cases hz0
      have hMk := HM.out (k + 1) (by omega) hkn
      rw [kid_at hz] at hMk
      have HMC := hMk.2 _ _ wr hzt hzn
      obtain ⟨G, hG⟩ : ∃ q, msgT txt z = q := ⟨_, rfl⟩
      rw [hG] at HMC
      unfold ndV strV at HMC
      replace HMC := Lib.hid HMC
      have hgf : GF k = [59, 32] ++ G := by rw [HG9.out]; show [59, 32] ++ (txt (kid x (k + 1))).2 = _; rw [kid_at hz, (msg_text hMk.1).2, hG]
      have HNX : Hid (J ++ ([59, 32] ++ G) = Q ++ joinF [] GF (k + 1)) := Lib.hid (by rw [joinF_succ, hJ.out, hgf]; split <;> simp)
      have hbd := HBD.out (k + 1) (by omega)
      have hl := congrArg List.length HNX.out
      simp only [List.length_append, List.length_cons, List.length_nil] at hl
      have hbd2 : J.length + 2 + G.length ≤ 1000000000 := by omega
      have hcat1 : (⟨J.toArray⟩ : ByteArray) ++ ⟨#[59, 32]⟩ = ⟨(J ++ [59, 32]).toArray⟩ := cat_b J [59, 32]
      have hle1 : (J ++ [59, 32]).length = J.length + 2 := by simp
      have hi0 : 0 ≤ (k : Int) + 1 := by omega
      have hi1 : (k : Int) + 1 < (n1 : Int) := by omega
      have htn : ((k : Int) + 1).toNat = k + 1 := by omega
      have HBE := Lib.hid hbel
      clear hz hzt hzn hMk hG hgf hbd hl hJ hbel
      go_wp2_with fail
      refine HMC.out.mono ?_; rintro e w4 ⟨rfl, hb4⟩
      have HB4 := HBE.out.trans (hb4.mono HBE.out.size)
      clear hb4
      go_wp2_with fail
      exact ⟨⟨k + 1, J ++ ([59, 32] ++ G), by simp, by omega, by first | rfl | (simp; done) | (simp; exact cat3 _ [59, 32] _), HNX, HB4⟩, by simp only [intOf]; omega⟩
    · have hk1 : k = n1 - 1 := by omega
      have hdec : decide ((k : Int) + 1 < (n1 : Int)) = false := decide_eq_false (by omega)
      have HJ : Hid (Q ++ joinF [] GF (n1 - 1) = J) := Lib.hid (by rw [hJ.out, hk1])
      have HBE := Lib.hid (HX.out.trans (hbel.mono HX.out.size))
      clear hbel hJ hk1
      go_wp2_with fail
      go_ret
      exact ⟨by rw [HJ.out]; first | rfl | simp, HBE.out⟩
set_option maxRecDepth 100000 in
set_option maxHeartbeats 3200000 in
theorem rsp9 (hK : x.kind = 9) (h0 : 0 ≤ x.num) (hle : x.num ≤ (x.names.length : Int)) (hnl : x.names.length ≤ 1000000) (hkl : x.kids.length ≤ 100000) (hS : ∀ y ∈ x.kids, RSp y) (hsz : (blockT txt x).length ≤ 1000000000) : RSp x := by
  intro kv nv w hk hn
  have hT : (txt x).1 = blockT txt x := by rw [txt_eq]; simp [nodeT, hK]
  rw [hT]
  clear hT
  obtain ⟨ka, kc, rfl, -, -⟩ := hk.form
  obtain ⟨na, nc, rfl, -, -⟩ := hn.form
  have hX := alloc_bel w (.cells #[.int .i64 9, .string ⟨x.name.toArray⟩, .int .i64 x.num, .slice ka x.kids.length kc, .slice na x.names.length nc, .int .i64 x.at_] 45)
  have hbk := Blk.made (T := 45) (cs := #[.int .i64 9, .string ⟨x.name.toArray⟩, .int .i64 x.num, .slice ka x.kids.length kc, .slice na x.names.length nc, .int .i64 x.at_]) w
  obtain ⟨w2, hw⟩ : ∃ v, w.alloc (.cells #[.int .i64 9, .string ⟨x.name.toArray⟩, .int .i64 x.num, .slice ka x.kids.length kc, .slice na x.names.length nc, .int .i64 x.at_] 45) = v := ⟨_, rfl⟩
  rw [hw] at hX hbk
  have hk2 := hk.bel hX
  have hn2 := hn.below hX
  have c0 : w2.cell? ⟨w.heap.size, 0, none⟩ = some (.int .i64 9) := hbk.c 0 _ rfl
  have c1 : w2.cell? ⟨w.heap.size, 1, none⟩ = some (.string ⟨x.name.toArray⟩) := hbk.c 1 _ rfl
  have c2 : w2.cell? ⟨w.heap.size, 2, none⟩ = some (.int .i64 x.num) := hbk.c 2 _ rfl
  have c3 : w2.cell? ⟨w.heap.size, 3, none⟩ = some (.slice ka x.kids.length kc) := hbk.c 3 _ rfl
  have c4 : w2.cell? ⟨w.heap.size, 4, none⟩ = some (.slice na x.names.length nc) := hbk.c 4 _ rfl
  have c5 : w2.cell? ⟨w.heap.size, 5, none⟩ = some (.int .i64 x.at_) := hbk.c 5 _ rfl
  have HW := Lib.hid hw
  have HX := Lib.hid hX
  have HBK := Lib.hid hbk
  obtain ⟨p, hp⟩ : ∃ p : Nat, x.num = (p : Int) := ⟨x.num.toNat, by omega⟩
  obtain ⟨m, hm⟩ : ∃ n, x.names.length = n := ⟨_, rfl⟩
  obtain ⟨n1, hn1⟩ : ∃ n, x.kids.length = n := ⟨_, rfl⟩
  obtain ⟨GF, hGF⟩ : ∃ g : Nat → Bytes, g = fun i => [58] ++ (x.names.getD i [] ++ [32]) := ⟨_, rfl⟩
  obtain ⟨A3, hA3⟩ : ∃ l, joinF [32] (fun i => (x.names.drop p).getD i []) (x.names.drop p).length = l := ⟨_, rfl⟩
  obtain ⟨A4, hA4⟩ : ∃ l, statsT txt x.kids = l := ⟨_, rfl⟩
  have hbt : blockT txt x = [91] ++ (joinF [] GF p ++ ((if 0 < (p : Int) then [124, 32] else []) ++ ((if (p : Int) < (m : Int) then [124, 32] ++ (A3 ++ [32, 124, 32]) else []) ++ (A4 ++ [93])))) := by
    unfold blockT
    rw [hp, hm, hA4, hGF, Int.toNat_natCast, hA3]
  rw [hbt] at hsz ⊢
  obtain ⟨TT, hTT⟩ : ∃ t, [91] ++ (joinF [] GF p ++ ((if 0 < (p : Int) then [124, 32] else []) ++ ((if (p : Int) < (m : Int) then [124, 32] ++ (A3 ++ [32, 124, 32]) else []) ++ (A4 ++ [93])))) = t := ⟨_, rfl⟩
  rw [hTT]
  have HTT := Lib.hid hTT
  rw [hp] at c2 hle h0 hw hbk
  rw [hm] at c4 hle hnl hn2 hw hbk
  rw [hn1] at c3 hkl hk2 hw hbk
  replace HW := Lib.hid hw
  replace HBK := Lib.hid hbk
  have HBD : Hid (∀ k, k ≤ p → (joinF [] GF k).length ≤ (joinF [] GF p).length) := Lib.hid (fun k hk => rjoinF_le [] GF hk)
  simp only [List.length_append, List.length_cons, List.length_nil] at hsz
  have HG9 := Lib.hid hGF
  have HNM := Lib.hid hn2
  have HK2 := Lib.hid hk2
  have HMN := Lib.hid hm
  have HKN := Lib.hid hn1
  have HA3 := Lib.hid hA3
  have HSS := Lib.hid hS
  have HST : Hid (statsT txt x.kids = joinF [46, 32] (fun i => (x.kids.map (fun y => (txt y).1)).getD i []) n1) := Lib.hid (by
    unfold statsT
    rw [hn1]
    refine joinF_congr _ _ _ _ (fun i hi => ?_)
    rw [List.getD_eq_getElem?_getD, List.getD_eq_getElem?_getD, List.getElem?_map, List.getElem?_eq_getElem (by omega)]
    rfl)
  have HA4 := Lib.hid hA4
  have hpm : p ≤ m := by omega
  rw [ndV, hn1, hm, hp]
  have HSZ := Lib.hid hsz
  clear hX hbk hw hk hn hk2 hn2 hm hn1 hGF hA3 hA4 hbt hp hS h0 hle hTT hsz
  unfold strV
  rw [hK]
  clear hK
  go_enter Tryz.func86, Tryz.ntmps86
  go_upto_region 1 with fail
  rw [HW.out]
  go_wp2_with fail
  go_loopw [5, 6] (fun s y wr => ∃ (k : Nat) (J : Bytes), y = .int .i64 (k : Int) ∧ k ≤ p ∧ s = .string ⟨J.toArray⟩ ∧ Hid (J = [91] ++ joinF [] GF k) ∧ w2 = wr) (fun _ y _ => p - (intOf y).toNat)
  case atStart => exact ⟨0, [91], rfl, Nat.zero_le _, rfl, Lib.hid rfl, rfl⟩
  case round =>
    obtain ⟨k, J, rfl, hk, rfl, hJ, rfl⟩ := hrel
    by_cases hkn : k < p
    · have hdec : decide ((k : Int) < (p : Int)) = true := decide_eq_true (by omega)
      have hkw : IntKind.i64.wrap ((k : Int) + 1) = (k : Int) + 1 := IntWalk.i64_in _ (by omega)
      obtain ⟨g1, o1, q, hx0, hq, hg1, hc1⟩ := HNM.out.at_ k (by omega)
      subst hx0
      unfold strV at hc1
      have hkn1 : (k : Int) < (m : Int) := by omega
      have hk0 : 0 ≤ (k : Int) := by omega
      have hgf : GF k = [58] ++ (q ++ [32]) := by rw [HG9.out]; show [58] ++ (x.names.getD k [] ++ [32]) = _; rw [List.getD_eq_getElem?_getD, hq]; rfl
      have HNX : Hid (J ++ ([58] ++ (q ++ [32])) = [91] ++ joinF [] GF (k + 1)) := Lib.hid (by rw [joinF_succ, hJ.out, hgf]; split <;> simp)
      have hbd := HBD.out (k + 1) (by omega)
      have hl := congrArg List.length HNX.out
      have hsz := HSZ.out
      simp only [List.length_append, List.length_cons, List.length_nil] at hl
      have hbd2 : J.length + 1 + q.length + 1 ≤ 1000000000 := by omega
      have hcat1 : (⟨J.toArray⟩ : ByteArray) ++ ⟨#[58]⟩ = ⟨(J ++ [58]).toArray⟩ := cat_b J [58]
      have hle1 : (J ++ [58]).length = J.length + 1 := by simp
      have hcat2 : (⟨(J ++ [58]).toArray⟩ : ByteArray) ++ ⟨q.toArray⟩ = ⟨((J ++ [58]) ++ q).toArray⟩ := cat_b (J ++ [58]) q
      have hle2 : ((J ++ [58]) ++ q).length = J.length + 1 + q.length := by simp; omega
      clear hgf hbd hl hJ hq hsz
      go_wp2_with fail
      exact ⟨⟨k + 1, J ++ ([58] ++ (q ++ [32])), by simp, by omega, by first | rfl | (simp; done) | (simp; exact cat4 _ [58] _ [32]) | (rw [cat_b]; simp), HNX, by trivial⟩, by simp only [intOf]; omega⟩
    · obtain rfl : k = p := by omega
      have hdec : decide ((k : Int) < (k : Int)) = false := by simp
      obtain ⟨a1, ha1⟩ : ∃ n, (joinF [] GF k).length = n := ⟨_, rfl⟩
      have hjl : J.length = a1 + 1 := by rw [hJ.out, List.length_append, ha1]; simp; omega
      have hsz := HSZ.out
      rw [ha1] at hsz
      replace HSZ := Lib.hid hsz
      clear ha1 hkn hsz
      go_upto_if 92 with fail
      go_cut [5] (fun s5 wx => ∃ J2 : Bytes, s5 = .string ⟨J2.toArray⟩ ∧ Hid (J2 = [91] ++ (joinF [] GF k ++ (if 0 < (k : Int) then [124, 32] else []))) ∧ Hid (J2.length ≤ a1 + 1 + (if 0 < (k : Int) then ([124, 32] : Bytes) else []).length) ∧ w2 = wx)
      case first =>
        by_cases k0 : k = 0
        · have hi : ¬ 0 < (k : Int) := by omega
          have hd0 : decide (0 < k) = false := decide_eq_false (by omega)
          have HJ2 : Hid (J = [91] ++ (joinF [] GF k ++ (if 0 < (k : Int) then [124, 32] else []))) := Lib.hid (by rw [if_neg hi, hJ.out, List.append_nil])
          have hl2 : J.length ≤ a1 + 1 + (if 0 < (k : Int) then ([124, 32] : Bytes) else []).length := by rw [if_neg hi]; simp; omega
          have K0 := Lib.hid k0
          have HL2 := Lib.hid hl2
          have hp0 : ¬ 0 < k := by omega
          have hpI : ¬ (0 : Int) < (k : Int) := hi
          clear k0 hi hJ hl2
          go_wp2_with fail
          go_meet
          exact ⟨J, rfl, HJ2, HL2, rfl⟩
        · have hi : 0 < (k : Int) := by omega
          have hd0 : decide (0 < k) = true := decide_eq_true (by omega)
          have HJ2 : Hid (J ++ [124, 32] = [91] ++ (joinF [] GF k ++ (if 0 < (k : Int) then [124, 32] else []))) := Lib.hid (by rw [if_pos hi, hJ.out, List.append_assoc])
          have hl2 : (J ++ [124, 32]).length ≤ a1 + 1 + (if 0 < (k : Int) then ([124, 32] : Bytes) else []).length := by rw [if_pos hi]; simp; omega
          have hcat : (⟨J.toArray⟩ : ByteArray) ++ ⟨#[124, 32]⟩ = ⟨(J ++ [124, 32]).toArray⟩ := cat_b J [124, 32]
          have HL2 := Lib.hid hl2
          have hp0 : 0 < k := by omega
          have hpI : (0 : Int) < (k : Int) := hi
          have hjb : J.length + 2 ≤ 2000000000 := by have hsz := HSZ.out; omega
          clear k0 hi hJ hl2
          go_wp2_with fail
          go_meet
          exact ⟨J ++ [124, 32], by first | rfl | (simp; done) | (simp; exact cat_b _ [124, 32]), HJ2, HL2, rfl⟩
      case rest =>
      obtain ⟨J2, rfl, hJ2, hl2, rfl⟩ := hcut
      obtain ⟨a2, ha2⟩ : ∃ n, (if 0 < (k : Int) then ([124, 32] : Bytes) else []).length = n := ⟨_, rfl⟩
      have hl2' := hl2.out
      have hsz := HSZ.out
      rw [ha2] at hl2' hsz
      replace HSZ := Lib.hid hsz
      clear ha2 hJ hjl hl2 hsz
      go_upto_if 100 with fail
      go_cut [5] (fun s5 wx => ∃ J3 : Bytes, s5 = .string ⟨J3.toArray⟩ ∧ Hid (J3 = J2 ++ (if (k : Int) < (m : Int) then [124, 32] ++ (A3 ++ [32, 124, 32]) else [])) ∧ Hid (J3.length ≤ a1 + 1 + a2 + (if (k : Int) < (m : Int) then [124, 32] ++ (A3 ++ [32, 124, 32]) else []).length) ∧ Below w2.heap.size w2 wx)
      case first =>
        by_cases km : k < m
        · have hi : (k : Int) < (m : Int) := by omega
          have hd0 : decide ((k : Int) < (m : Int)) = true := decide_eq_true hi
          have hd1 : decide (k < m) = true := decide_eq_true km
          have hsz := HSZ.out
          rw [if_pos hi] at hsz
          simp only [List.length_append, List.length_cons, List.length_nil] at hsz
          have HJ3 : Hid (J2 ++ ([124, 32] ++ (A3 ++ [32, 124, 32])) = J2 ++ (if (k : Int) < (m : Int) then [124, 32] ++ (A3 ++ [32, 124, 32]) else [])) := Lib.hid (by rw [if_pos hi])
          have HL3 : Hid ((J2 ++ ([124, 32] ++ (A3 ++ [32, 124, 32]))).length ≤ a1 + 1 + a2 + (if (k : Int) < (m : Int) then [124, 32] ++ (A3 ++ [32, 124, 32]) else []).length) := Lib.hid (by rw [if_pos hi, List.length_append]; omega)
          obtain ⟨g1, o1, q, hx0, hq, hg1, hc1⟩ := HNM.out.at_ k km
          subst hx0
          have hrest := HNM.out.rest k (by omega)
          have HJN := rjoin_any (x.names.drop k) [32] _ w2 hrest (by rw [HA3.out]; omega)
          rw [HA3.out] at HJN
          unfold strV at HJN
          replace HJN := Lib.hid HJN
          have hmc : m ≤ nc := by
            obtain ⟨a', c', e, h1, h2⟩ := HNM.out.form
            have hmn := HMN.out
            cases e
            omega
          have hnc : k ≤ nc := by omega
          have hkc1 : (k : Int) ≤ (nc : Int) := by omega
          have hkm1 : (k : Int) ≤ (m : Int) := by omega
          have hkm2 : ((m : Int) - (k : Int)).toNat = m - k := by omega
          have hkne : ¬ k = nc := by omega
          have hcat1 : (⟨J2.toArray⟩ : ByteArray) ++ ⟨#[124, 32]⟩ = ⟨(J2 ++ [124, 32]).toArray⟩ := cat_b J2 [124, 32]
          have hle1 : (J2 ++ [124, 32]).length = J2.length + 2 := by simp
          have hcat2 : (⟨(J2 ++ [124, 32]).toArray⟩ : ByteArray) ++ ⟨A3.toArray⟩ = ⟨((J2 ++ [124, 32]) ++ A3).toArray⟩ := cat_b (J2 ++ [124, 32]) A3
          have hle2 : ((J2 ++ [124, 32]) ++ A3).length = J2.length + 2 + A3.length := by simp; omega
          clear hq hc1 hrest hi
          go_wp2_with fail
          refine HJN.out.mono ?_; rintro e w9 ⟨rfl, rfl⟩
          go_wp2_with fail
          go_meet
          exact ⟨J2 ++ ([124, 32] ++ (A3 ++ [32, 124, 32])), by first | rfl | (simp; done) | (simp; exact cat4 _ [124, 32] _ [32, 124, 32]) | (rw [cat_b]; simp), HJ3, HL3, Below.refl _ _⟩
        · have hi : ¬ (k : Int) < (m : Int) := by omega
          have hd0 : decide ((k : Int) < (m : Int)) = false := decide_eq_false hi
          have hd1 : decide (k < m) = false := decide_eq_false km
          have HJ3 : Hid (J2 = J2 ++ (if (k : Int) < (m : Int) then [124, 32] ++ (A3 ++ [32, 124, 32]) else [])) := Lib.hid (by rw [if_neg hi, List.append_nil])
          have HL3 : Hid (J2.length ≤ a1 + 1 + a2 + (if (k : Int) < (m : Int) then [124, 32] ++ (A3 ++ [32, 124, 32]) else []).length) := Lib.hid (by rw [if_neg hi]; simp; omega)
          have hpI : ¬ (k : Int) < (m : Int) := hi
          clear hi
          go_wp2_with fail
          go_meet
          exact ⟨J2, rfl, HJ3, HL3, Below.refl _ _⟩
      case rest =>
      obtain ⟨J3, rfl, hJ3, hl3, hb3⟩ := hcut
      obtain ⟨X3, hX3⟩ : ∃ t, (if (k : Int) < (m : Int) then [124, 32] ++ (A3 ++ [32, 124, 32]) else []) = t := ⟨_, rfl⟩
      have hl3' := hl3.out
      have hsz := HSZ.out
      have hj3 := hJ3.out
      rw [hX3] at hl3' hsz hj3
      have hTT := HTT.out
      rw [hX3] at hTT
      have HTX : Hid (TT = J3 ++ (A4 ++ [93])) := Lib.hid (by rw [← hTT, hj3, hJ2.out]; simp)
      have hA4 : A4 = joinF [46, 32] (fun i => (x.kids.map (fun y => (txt y).1)).getD i []) n1 := by rw [← HA4.out, HST.out]
      have c3' : wc.cell? ⟨w.heap.size, 3, none⟩ = some (.slice ka n1 kc) := (HBK.out.below hb3 HBK.out.lt).c 3 _ rfl
      have HSP := rspells_any x.kids (by rw [HKN.out]; exact hkl) HSS.out _ wc (HK2.out.bel hb3)
      rw [HKN.out] at HSP
      replace HSP := Lib.hid HSP
      have HA4L : Hid (A4.length + J3.length + 1 ≤ 1000000000) := Lib.hid (by omega)
      have HA4E := Lib.hid hA4
      have HBW := Lib.hid (HX.out.trans (hb3.mono HX.out.size))
      clear hJ3 hl3 hb3 hX3 hl3' hsz hj3 hTT hA4 hJ2 hl2'
      go_wp2_with fail
      refine HSP.out.mono ?_; rintro e w9 ⟨hb9, v9, rfl, hown9⟩
      have hrd9 := rd_row hown9 (by rw [List.length_map, HKN.out])
      have HJN9 := rjoin_any _ [46, 32] _ w9 hrd9 (by rw [List.length_map, HKN.out, ← HA4E.out]; have := HA4L.out; omega)
      rw [List.length_map, HKN.out, ← HA4E.out] at HJN9
      unfold strV at HJN9
      replace HJN9 := Lib.hid HJN9
      have HB9 := Lib.hid (HBW.out.trans (hb9.mono HBW.out.size))
      have hbd9 := HA4L.out
      have hcat1 : (⟨J3.toArray⟩ : ByteArray) ++ ⟨A4.toArray⟩ = ⟨(J3 ++ A4).toArray⟩ := cat_b J3 A4
      have hle1 : (J3 ++ A4).length = J3.length + A4.length := by simp
      clear hb9 hown9 hrd9
      go_wp2_with fail
      refine HJN9.out.mono ?_; rintro e w10 ⟨rfl, rfl⟩
      go_wp2_with fail
      go_ret
      exact ⟨by rw [HTX.out]; first | rfl | (simp; done) | (simp; exact cat3 _ _ [93]), HB9.out⟩
end Tr
end Go.Proofs.YtfbhokdcnjekiaaGreatDoor
namespace Go.Proofs.YtfbhokdcnjekiaaGreatDoor
open Go.RowKit
namespace Tr
open Bs Sm
set_option maxHeartbeats 1600000 in
theorem rsym_any (s : Bytes) (hs : s.length ≤ 1000000) (w : World) : Calls Tryz.prog 118 #[.string ⟨s.toArray⟩] w (Back (.string ⟨(symT s).toArray⟩) w) := by
  obtain ⟨B, hB⟩ : ∃ B, Calls Tryz.prog 137 #[.agg #[.int .i64 5, .string ⟨s.toArray⟩, .int .i64 0, .int .i64 0]] w (Lx.RSpelt (symT s) B w) := by
    have ha : Lx.arityL s = Lx.arityP s := rfl
    by_cases h : Lx.arityL s < 0
    · have hsp : Lx.spelledL 5 s 0 = symT s := by
        unfold Lx.spelledL symT
        rw [if_neg (by omega), if_neg (by omega), if_neg (by omega), if_pos rfl, if_pos (by rw [← ha]; exact h), if_pos h, quote_eq]
      have := Lx.rspell_symq (k := 5) (n := 0) (a := 0) (wd := ⟨s.toArray⟩) (w := w) (by omega) (by omega) (by omega) (show s.toArray.size ≤ _ by simp; omega) ⟨rfl, h⟩
      rw [show (⟨s.toArray⟩ : ByteArray).data.toList = s from rfl, hsp] at this
      exact ⟨_, this⟩
    · have hsp : Lx.spelledL 5 s 0 = symT s := by
        unfold Lx.spelledL symT
        rw [if_neg (by omega), if_neg (by omega), if_neg (by omega), if_pos rfl, if_neg (by rw [← ha]; exact h), if_neg h]
      have := Lx.rspell_sym (k := 5) (n := 0) (a := 0) (wd := ⟨s.toArray⟩) (w := w) (by omega) (by omega) (by omega) (show s.toArray.size ≤ _ by simp; omega) ⟨rfl, h⟩
      rw [show (⟨s.toArray⟩ : ByteArray).data.toList = s from rfl, hsp] at this
      exact ⟨_, this⟩
  have HB := Lib.hid hB
  clear hB
  go_enter Tryz.func118, Tryz.ntmps118
  go_wp2_with fail
  refine HB.out.mono ?_; rintro e w4 ⟨hbd, rfl⟩
  have HB4 := Lib.hid hbd
  clear hbd
  go_wp2_with fail
  go_ret
  exact ⟨rfl, HB4.out⟩
theorem rsp3 {x : Nd} (hK : x.kind = 3) (h1 : x.name.length ≤ 1000000) : RSp x := by
  intro kv nv w hk hn
  have hT : (txt x).1 = symT x.name := by rw [txt_eq]; simp [nodeT, hK]
  rw [hT]
  obtain ⟨ka, kc, rfl, -, -⟩ := hk.form
  obtain ⟨na, nc, rfl, -, -⟩ := hn.form
  have hX := alloc_bel w (.cells #[.int .i64 3, .string ⟨x.name.toArray⟩, .int .i64 x.num, .slice ka x.kids.length kc, .slice na x.names.length nc, .int .i64 x.at_] 45)
  have hbk := Blk.made (T := 45) (cs := #[.int .i64 3, .string ⟨x.name.toArray⟩, .int .i64 x.num, .slice ka x.kids.length kc, .slice na x.names.length nc, .int .i64 x.at_]) w
  obtain ⟨w2, hw⟩ : ∃ v, w.alloc (.cells #[.int .i64 3, .string ⟨x.name.toArray⟩, .int .i64 x.num, .slice ka x.kids.length kc, .slice na x.names.length nc, .int .i64 x.at_] 45) = v := ⟨_, rfl⟩
  rw [hw] at hX hbk
  have c0 : w2.cell? ⟨w.heap.size, 0, none⟩ = some (.int .i64 3) := hbk.c 0 _ rfl
  have c1 : w2.cell? ⟨w.heap.size, 1, none⟩ = some (.string ⟨x.name.toArray⟩) := hbk.c 1 _ rfl
  have HC := Lib.hid (rsym_any x.name h1 w2)
  have HW := Lib.hid hw
  have HX := Lib.hid hX
  unfold ndV strV
  rw [hK]
  clear hK hX hbk hw hk hn hT h1
  go_enter Tryz.func86, Tryz.ntmps86
  go_upto_region 1 with fail
  rw [HW.out]
  go_wp2_with fail
  refine HC.out.mono ?_; rintro e w4 ⟨rfl, hbd⟩
  have HB := Lib.hid (HX.out.trans (hbd.mono HX.out.size))
  clear hbd
  go_wp2_with fail
  go_ret
  exact ⟨rfl, HB.out⟩
theorem fit_kid {x : Nd} (hg : Gd x) (i : Nat) (hi : i < x.kids.length) (h : x.kind ≠ 8 ∨ i = 0) : holed (kid x i) = false := by
  have h2 := hg.parts.2.2
  rw [fitsK_get] at h2
  have h3 := List.all_eq_true.1 h2 i (List.mem_range.2 hi)
  rw [List.getElem?_eq_getElem hi] at h3
  have hm : ((x.kind == 8) && decide (0 < i)) = false := by
    rcases h with h | h
    · rw [beq_eq_false_iff_ne.2 h]; rfl
    · rw [h]; simp
  rw [hm] at h3
  have e : kid x i = x.kids[i] := by unfold kid; rw [List.getD_eq_getElem?_getD, List.getElem?_eq_getElem hi]; rfl
  rw [e]
  unfold fitsB at h3
  simp only [Bool.and_eq_true] at h3
  have := h3.1.2
  simpa using this
theorem body_ne : ∀ (l : List Nd), bodyB l = true → ∀ y ∈ l, y.kind ≠ 11
  | [], _, y, hy => by cases hy
  | x :: l, h, y, hy => by
    unfold bodyB at h
    simp only [Bool.and_eq_true] at h
    rcases List.mem_cons.1 hy with rfl | hy
    · have := h.1.1; simpa using this
    · exact body_ne l h.2 y hy
theorem lit_ne {y : Nd} (h : litB y = true) : y.kind ≠ 11 := by
  intro e
  unfold litB at h
  rw [e] at h
  simp at h
theorem val_ne {y : Nd} (h : valB y = true) : y.kind ≠ 11 := by
  intro e
  unfold valB at h
  rw [e] at h
  simp at h
theorem kid_ne {x : Nd} (hg : Gd x) (h8 : x.kind ≠ 8) (i : Nat) (hi : i < x.kids.length) (h : x.kind = 7 → 0 < i ∨ holed x = false) : (kid x i).kind ≠ 11 := by
  have hkb := hg.parts.2.1
  have hm := kid_mem x i hi
  unfold kidsB at hkb
  by_cases h4 : x.kind = 4
  · rw [if_pos h4] at hkb
    exact lit_ne (List.all_eq_true.1 hkb _ hm)
  rw [if_neg h4] at hkb
  by_cases h9 : x.kind = 9
  · rw [if_pos h9] at hkb
    exact body_ne _ hkb _ hm
  rw [if_neg h9, if_neg h8] at hkb
  by_cases h7 : x.kind = 7
  · rw [if_pos h7] at hkb
    have hkd : ∀ j, kid x j = x.kids.getD j nd0 := fun j => rfl
    cases hx : x.kids with
    | nil => rw [hx] at hi; simp at hi
    | cons y l =>
      rw [hx] at hkb hi
      simp only [Bool.and_eq_true] at hkb
      rw [hkd, hx]
      cases i with
      | zero =>
        rcases h h7 with h | h
        · omega
        · unfold holed at h
          rw [h7, hx] at h
          simpa using h
      | succ i =>
        have hl : i < l.length := by simpa using hi
        have := List.all_eq_true.1 hkb.1 l[i] (List.getElem_mem hl)
        simp only [List.getD_cons_succ]
        rw [List.getD_eq_getElem?_getD, List.getElem?_eq_getElem hl]
        exact val_ne this
  rw [if_neg h7] at hkb
  exact val_ne (List.all_eq_true.1 hkb _ hm)
theorem t_le (y : Nd) : (txt y).1.length ≤ tlen y ∧ (txt y).2.length ≤ tlen y := by unfold tlen; omega
theorem t_max {y : Nd} (hg : Gd y) (hc : cntL y.kids ≤ 900) : tlen y ≤ 1000000000 := by
  have := hg.len
  unfold Tb at this
  omega
theorem rall : ∀ (m : Nat) (x : Nd), cntL x.kids < m → Gd x → cntL x.kids ≤ 900 → (x.kind ≠ 11 → holed x = false → RSp x) ∧ (x.kind = 7 → RMsg x) ∧ (x.kind = 7 → holed x = false → RSnd x)
  | 0, x, h, _, _ => by omega
  | m + 1, x, h, hg, hc => by
    have IH : ∀ i, i < x.kids.length → ((kid x i).kind ≠ 11 → holed (kid x i) = false → RSp (kid x i)) ∧ ((kid x i).kind = 7 → RMsg (kid x i)) ∧ ((kid x i).kind = 7 → holed (kid x i) = false → RSnd (kid x i)) := fun i hi =>
      rall m (kid x i) (by have := kid_lt x i hi; omega) (hg.kid i hi) (by have := kid_lt x i hi; omega)
    have hsh := hg.parts.1
    have hin := sh_in hsh
    have hkl : x.kids.length ≤ 900 := by have := len_le_cnt x.kids; omega
    have hbig := hg.nice.2
    have hnm := hg.name
    have HT := t_max hg hc
    have ht := t_le x
    have htk : ∀ i, i < x.kids.length → (txt (kid x i)).1.length ≤ 1000000000 := fun i hi => by
      have h1 := t_max (hg.kid i hi) (by have := kid_lt x i hi; omega)
      have h2 := (t_le (kid x i)).1
      omega
    have hins : ∀ i, i < x.kids.length → x.kind ≠ 8 → (x.kind = 7 → 0 < i ∨ holed x = false) → RIns (kid x i) := fun i hi h8 h7 wh hwh kv nv w hk hn =>
      rinside_any ((IH i hi).1 (kid_ne hg h8 i hi h7) (fit_kid hg i hi (.inl h8))) (fun e => (sh7 e (hg.kid i hi).parts.1).1) (htk i hi) wh hwh w hk hn
    have hsp : ∀ y ∈ x.kids, x.kind ≠ 8 → x.kind ≠ 7 → RSp y := fun y hy h8 h7 => by
      obtain ⟨i, hi⟩ := List.getElem?_of_mem hy
      have hil := (List.getElem?_eq_some_iff.1 hi).1
      have := (IH i hil).1 (kid_ne hg h8 i hil (fun e => absurd e h7)) (fit_kid hg i hil (.inl h8))
      rwa [kid_at hi] at this
    have hmsg : x.kind = 7 → RMsg x := fun h7 => by
      obtain ⟨ha, hkn⟩ := sh7 h7 hsh
      have hsz : (msgT txt x).length ≤ 1000000000 := by rw [← (msg_text h7).2]; omega
      rcases rank_cases ha with ⟨r, _⟩ | ⟨r, ha1⟩ | ⟨r, _, _, hpl⟩
      · exact rmsg_name ha r
      · exact rmsg_op ha r (by omega) (hins 1 (by omega) (by omega) (fun _ => .inl (by omega))) hsz
      · refine rmsg_kw ha r (by omega) (fun i h0 hi => hins i hi (by omega) (fun _ => .inl h0)) hsz
    have hsnd : x.kind = 7 → holed x = false → RSnd x := fun h7 hh => by
      obtain ⟨ha, hkn⟩ := sh7 h7 hsh
      exact rsend_any ha (by omega) (hins 0 (by omega) (by omega) (fun _ => .inr hh)) (hmsg h7) (by rw [← (msg_text h7).1]; omega)
    refine ⟨fun h11 hh => ?_, hmsg, hsnd⟩
    obtain h1 | h1 | h1 | h1 | h1 | h1 | h1 | h1 | h1 | h1 : x.kind = 1 ∨ x.kind = 2 ∨ x.kind = 3 ∨ x.kind = 4 ∨ x.kind = 5 ∨ x.kind = 6 ∨ x.kind = 7 ∨ x.kind = 8 ∨ x.kind = 9 ∨ x.kind = 10 := by omega
    · have := hg.nice.1.2.2
      exact rsp1 h1 (by omega) (by omega)
    · exact rsp2 h1 hnm
    · exact rsp3 h1 hnm
    · refine rsp4 h1 (by omega) (fun y hy => ⟨hsp y hy (by omega) (by omega), (hg.of_mem hy).name⟩) ?_
      have : (txt x).2 = listT txt x := by rw [txt_eq]; simp [nodeT, h1]
      rw [← this]
      omega
    · exact rsp5 h1
    · obtain ⟨_, hk1⟩ := sh6 h1 hsh
      exact rsp6 h1 hnm (by omega) (hsp _ (kid_mem x 0 (by omega)) (by omega) (by omega)) (htk 0 (by omega))
    · exact rsp7 h1 (hsnd h1 hh)
    · have hk2 := sh8 h1 hsh
      obtain ⟨c1, c2, c3⟩ := sh_casc h1 hg.parts.2.1 hk2
      refine rsp8 h1 hk2 (by omega) c1 ((IH 0 (by omega)).2.2 c1 c2) (fun i h0 hi => ?_) ?_
      · have c7 : (kid x i).kind = 7 := by
          have := c3 i h0 hi
          unfold holed at this
          simp only [Bool.and_eq_true, beq_iff_eq] at this
          exact this.1
        exact ⟨c7, (IH i hi).2.1 c7⟩
      · have : (txt x).1 = cascT txt x := by rw [txt_eq]; simp [nodeT, h1]
        rw [← this]
        omega
    · obtain ⟨a, b', _⟩ := sh9 h1 hsh
      refine rsp9 h1 a b' (by have := hg.nice.1.2.1; omega) (by omega) (fun y hy => hsp y hy (by omega) (by omega)) ?_
      have : (txt x).1 = blockT txt x := by rw [txt_eq]; simp [nodeT, h1]
      rw [← this]
      omega
    · have hk1 := sh10 h1 hsh
      exact rsp10 h1 (by omega) (hsp _ (kid_mem x 0 (by omega)) (by omega) (by omega)) (htk 0 (by omega))
end Tr
end Go.Proofs.YtfbhokdcnjekiaaGreatDoor
