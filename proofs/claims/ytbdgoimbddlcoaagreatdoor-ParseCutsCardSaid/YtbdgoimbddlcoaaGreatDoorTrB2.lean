/- Package tree, the walk: rank, parts, spread. -/
import Derived.Test.YtbdgoimbddlcoaaGreatDoorTrB1
import Derived.Test.YtbdgoimbddlcoaaGreatDoorTrPg
import Derived.Test.YtbdgoimbddlcoaaGreatDoorTrMa
set_option linter.unusedVariables false
namespace Go.Proofs.YtbdgoimbddlcoaaGreatDoor
open Go.RowKit
namespace Tr
open Bs Sm
/-- What a writer may lean on. -/
structure St (B b : Nat) (acc : Bytes) (w0 w : World) : Prop where
 isb : Lib.IsBuilder OT U8 B b (Lib.byteCells acc) w
 bel : Below B w0 w
 kp : KeepT b U8 w0 w
 siz : B ≤ w.heap.size
section
variable {B b : Nat} {acc t : Bytes} {w0 w w' : World} {e : Ending}
theorem St.start (h : Lib.IsBuilder OT U8 B b (Lib.byteCells acc) w) (hB : B ≤ w.heap.size) : St B b acc w w := ⟨h, Below.refl _ _, KeepT.refl _ _ _, hB⟩
theorem St.step (h : St B b acc w0 w) (k : Wr B b acc t w e w') : St B b (acc ++ t) w0 w' := ⟨k.2.1, h.bel.trans k.2.2.1, h.kp.trans k.2.2.2, Nat.le_trans h.siz k.2.2.1.size⟩
theorem St.go (h : St B b acc w0 w) (k : Below w.heap.size w w') : St B b acc w0 w' := ⟨isb_below h.isb k, h.bel.trans (k.mono h.siz), h.kp.below k, Nat.le_trans h.siz k.size⟩
theorem St.done (h : St B b (acc ++ t) w0 w) : Wr B b acc t w0 (.returned (.tuple #[])) w := ⟨rfl, h.isb, h.bel, h.kp⟩
theorem St.done' {acc2 : Bytes} (h : St B b acc2 w0 w) (he : acc2 = acc ++ t) : Wr B b acc t w0 (.returned (.tuple #[])) w := by subst he; exact h.done
end
theorem rank_any (s : Bytes) (hs : s.length ≤ 1000000) (w : World) : Calls Tryz.prog 78 #[strV s] w (Back (.int .i64 (rankS s)) w) := by
 have HA := Arity_at s w
 have HS := fun w' => Tryz.strings_HasSuffix ⟨s.toArray⟩ ⟨#[58]⟩ w' (by show s.length ≤ _; omega)
 have HS : ∀ w', Calls Tryz.prog 132 #[.string ⟨s.toArray⟩, .string ⟨#[58]⟩] w' (fun e w'' => e = .returned (.bool (ends s)) ∧ w'' = w') := HS
 unfold rankS
 unfold strV at HA ⊢
 obtain ⟨n, hn⟩ : ∃ n, Lx.arityL s = n := ⟨_, rfl⟩
 obtain ⟨q, hq⟩ : ∃ q, ends s = q := ⟨_, rfl⟩
 rw [hn] at HA ⊢
 rw [hq] at HS ⊢
 replace HA := Lib.hid HA
 replace HS := Lib.hid HS
 clear hn hq
 obtain ⟨Q, hQ⟩ : ∃ Q : Int, (if n = 0 then (3 : Int) else if q = true then 1 else 2) = Q := ⟨_, rfl⟩
 rw [hQ]
 have HQ := Lib.hid hQ
 clear hQ
 by_cases h0 : n = 0
 · subst h0
   go_enter Tryz.func78, Tryz.ntmps78
   go_wp2_with fail
   refine HA.out.mono ?_; rintro e w1 ⟨rfl, hb1⟩
   go_wp2_with fail
   go_ret
   exact ⟨by rw [← HQ.out]; simp, hb1⟩
 · have h0b : (n == 0) = false := beq_eq_false_iff_ne.2 h0
   go_enter Tryz.func78, Tryz.ntmps78
   go_wp2_with fail
   refine HA.out.mono ?_; rintro e w1 ⟨rfl, hb1⟩
   go_wp2_with fail
   refine (HS.out _).mono ?_; rintro e w2 ⟨rfl, rfl⟩
   cases q with
   | true =>
    go_wp2_with fail
    go_ret
    exact ⟨by rw [← HQ.out]; simp [h0], hb1⟩
   | false =>
    go_wp2_with fail
    go_ret
    exact ⟨by rw [← HQ.out]; simp [h0], hb1⟩
theorem rankN_any (x : Nd) (kv nv : Value) (hs : x.name.length ≤ 1000000) (w : World) : Calls Tryz.prog 190 #[ndV x kv nv] w (Back (.int .i64 (rankN x)) w) := by
 have HR := fun w' => rank_any x.name hs w'
 unfold rankN
 unfold ndV
 unfold strV at HR
 obtain ⟨K, hK⟩ : ∃ K, x.kind = K := ⟨_, rfl⟩
 obtain ⟨r, hr⟩ : ∃ r, rankS x.name = r := ⟨_, rfl⟩
 rw [hr] at HR
 rw [hK, hr]
 replace HR := Lib.hid HR
 clear hr hK
 by_cases h7 : K = 7
 · subst h7
   go_enter Tryz.func190, Tryz.ntmps190
   go_wp2_with fail
   refine (HR.out _).mono ?_; rintro e w1 ⟨rfl, hb1⟩
   go_wp2_with fail
   go_ret
   exact ⟨by simp, (alloc_bel _ _).trans (hb1.mono (by simp))⟩
 · have b7 : (K == 7) = false := beq_eq_false_iff_ne.2 h7
   rw [if_neg h7]
   by_cases h68 : K = 6 ∨ K = 8
   · rw [if_pos h68]
     rcases h68 with h | h
     all_goals
      subst h
      go_enter Tryz.func190, Tryz.ntmps190
      go_wp2_with fail
      go_ret
      exact ⟨by simp, alloc_bel _ _⟩
   · rw [if_neg h68]
     have b6 : (K == 6) = false := beq_eq_false_iff_ne.2 (fun h => h68 (.inl h))
     have b8 : (K == 8) = false := beq_eq_false_iff_ne.2 (fun h => h68 (.inr h))
     clear h68 h7
     go_enter Tryz.func190, Tryz.ntmps190
     go_wp2_with fail
     go_ret
     exact ⟨by simp, alloc_bel _ _⟩
/-- A name's parts, with their colons. -/
def partsB (s : Bytes) : List ByteArray := Lib.splitB ⟨#[58]⟩ 1 (min (Lib.countB ⟨(Lib.trimSuffix s [58]).toArray⟩ ⟨#[58]⟩ + 1) ((Lib.trimSuffix s [58]).length + 1) - 1) ⟨(Lib.trimSuffix s [58]).toArray⟩
theorem parts_eq (s : Bytes) : partsL s = (partsB s).map (fun p => Lib.trimSuffix p.data.toList [58]) := rfl
theorem trim_le (s : Bytes) : (Lib.trimSuffix s [58]).length ≤ s.length := by
 unfold Lib.trimSuffix
 split
 · rw [List.length_take]; omega
 · exact Nat.le_refl _
theorem split_len (sep : ByteArray) (sv : Nat) : ∀ (k : Nat) (s : ByteArray), (Lib.splitB sep sv k s).length ≤ k + 1
 | 0, s => by simp [Lib.splitB]
 | k + 1, s => by
  unfold Lib.splitB
  split
  · simp
  · have := split_len sep sv k (s.extract ((Lib.indexB s sep).toNat + sep.size) s.size)
    simp; omega
theorem splitAfter_any (t : Bytes) (ht : t.length ≤ 1000000) (w : World) (hm : MaxV w) : Calls Tryz.prog 158 #[.string ⟨t.toArray⟩, .string ⟨#[58]⟩] w
  (fun e w' => ∃ N, N = min (Lib.countB ⟨t.toArray⟩ ⟨#[58]⟩ + 1) (t.length + 1) ∧ e = .returned (.slice (some ⟨w.heap.size, 0, none⟩) (Lib.splitB ⟨#[58]⟩ 1 (N - 1) ⟨t.toArray⟩).length N) ∧ w' = w.alloc (.cells (Lib.cellsOf (Lib.splitB ⟨#[58]⟩ 1 (N - 1) ⟨t.toArray⟩) N) 9)) := by
 obtain ⟨mv, hmv⟩ := hm
 obtain ⟨N, hN⟩ : ∃ N, N = min (Lib.countB ⟨t.toArray⟩ ⟨#[58]⟩ + 1) (t.length + 1) := ⟨_, rfl⟩
 have HG := Lib.hid (Tryz.strings_genSplit ⟨t.toArray⟩ ⟨#[58]⟩ 1 (-1) N mv w (by show t.length < _; omega) hmv (by decide) (by decide) (by decide) (by decide) (by
  rw [if_pos (by decide), hN]
  show _ = min _ ((t.length : Int) + 1)
  omega))
 have HN := Lib.hid hN
 clear hN
 go_enter Tryz.func158, Tryz.ntmps158
 go_wp2_with fail
 refine HG.out.mono ?_; rintro e w1 ⟨rfl, rfl⟩
 go_wp2_with fail
 go_ret
 exact ⟨N, HN.out, rfl, rfl⟩
set_option maxRecDepth 100000 in
set_option maxHeartbeats 1600000 in
theorem parts_any (s : Bytes) (hs : s.length ≤ 1000000) (w : World) (hm : MaxV w) : Calls Tryz.prog 133 #[strV s] w
  (fun e w' => Below w.heap.size w w' ∧ ∃ g c, e = .returned (.slice (some ⟨g, 0, none⟩) (partsB s).length c) ∧ (partsB s).length ≤ 1000001 ∧ ∃ cs : Array Value, Blk 9 g cs w' ∧ ∀ (i : Nat) (p : ByteArray), (partsB s)[i]? = some p → cs[i]? = some (.string p)) := by
 have hl := trim_le s
 have HT := fun w' => Tryz.strings_TrimSuffix ⟨s.toArray⟩ ⟨#[58]⟩ w' (by show s.length ≤ _; omega)
 have HT : ∀ w', Calls Tryz.prog 134 #[.string ⟨s.toArray⟩, .string ⟨#[58]⟩] w' (fun e w'' => e = .returned (.string ⟨(Lib.trimSuffix s [58]).toArray⟩) ∧ w'' = w') := HT
 obtain ⟨t, ht⟩ : ∃ t, Lib.trimSuffix s [58] = t := ⟨_, rfl⟩
 rw [ht] at HT hl
 have HPB : Hid (partsB s = Lib.splitB ⟨#[58]⟩ 1 (min (Lib.countB ⟨t.toArray⟩ ⟨#[58]⟩ + 1) (t.length + 1) - 1) ⟨t.toArray⟩) := Lib.hid (by unfold partsB; rw [ht])
 have HS := Lib.hid (splitAfter_any t (by omega) w hm)
 replace HT := Lib.hid HT
 unfold strV
 clear ht
 go_enter Tryz.func133, Tryz.ntmps133
 go_wp2_with fail
 refine (HT.out _).mono ?_; rintro e w1 ⟨rfl, rfl⟩
 go_wp2_with fail
 refine HS.out.mono ?_; rintro e w2 ⟨N, hN, rfl, rfl⟩
 have hPB := HPB.out
 rw [← hN] at hPB
 obtain ⟨L, hL⟩ : ∃ L, Lib.splitB ⟨#[58]⟩ 1 (N - 1) ⟨t.toArray⟩ = L := ⟨_, rfl⟩
 have hlen := split_len ⟨#[58]⟩ 1 (N - 1) ⟨t.toArray⟩
 rw [hL] at hlen hPB ⊢
 have HPL := Lib.hid hPB
 have HLN := Lib.hid hlen
 have HN := Lib.hid hN
 clear hL hlen hN hPB HPB
 go_wp2_with fail
 go_ret
 rw [HPL.out]
 refine ⟨alloc_bel _ _, _, _, rfl, by have := HLN.out; have := HN.out; omega, _, Blk.made _, fun i p hp => ?_⟩
 unfold Lib.cellsOf
 have hi := (List.getElem?_eq_some_iff.1 hp).1
 rw [List.getElem?_toArray, List.getElem?_append_left (by simpa using hi), List.getElem?_map, hp]
 rfl
/-- What is handed to spread. -/
def Behind (B b : Nat) (Inv : World → Prop) (kf : Nat) (cap : Array Value) (g : Nat → Bytes) (n L : Nat) : Prop :=
 Ent kf ∧ (∀ w w', Inv w → KeepT b U8 w w' → Below B w w' → Inv w') ∧
 ∀ i acc w, i < n → Inv w → Lib.IsBuilder OT U8 B b (Lib.byteCells acc) w → B ≤ w.heap.size → acc.length + (g i).length ≤ L → Calls Tryz.prog kf (#[.int .i64 (i : Int)] ++ cap) w (Wr B b acc (g i) w)
theorem joinF_le (bt : Bytes) (g : Nat → Bytes) : ∀ {k n : Nat}, k ≤ n → (joinF bt g k).length ≤ (joinF bt g n).length := by
 intro k n h
 induction n with
 | zero => obtain rfl : k = 0 := by omega
           exact Nat.le_refl _
 | succ n ih =>
  by_cases e : k = n + 1
  · subst e; exact Nat.le_refl _
  · rw [joinF_succ, List.length_append]
    have := ih (by omega)
    omega
end Tr
end Go.Proofs.YtbdgoimbddlcoaaGreatDoor
