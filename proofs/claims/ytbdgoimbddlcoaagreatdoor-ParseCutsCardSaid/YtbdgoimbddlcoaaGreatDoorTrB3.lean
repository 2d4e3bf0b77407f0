/- Package tree, the walk: spread, least, send, statements. -/
import Derived.Test.YtbdgoimbddlcoaaGreatDoorTrB2
set_option linter.unusedVariables false
namespace Go.Proofs.YtbdgoimbddlcoaaGreatDoor
open Go.RowKit
namespace Tr
open Bs Sm
/-- What may be read while one prints. -/
def Env (B : Nat) (w : World) : Prop := ∃ w0, w0.heap.size = B ∧ Pow10 w0 ∧ MaxV w0 ∧ ErrVar w0 ∧ Below B w0 w
theorem Env.below {B : Nat} {w w' : World} (h : Env B w) (hb : Below B w w') : Env B w' := by
 obtain ⟨w0, h1, h2, h3, h5, h4⟩ := h
 exact ⟨w0, h1, h2, h3, h5, h4.trans hb⟩
theorem Env.pow {B : Nat} {w : World} (h : Env B w) : Pow10 w := by
 obtain ⟨w0, h1, h2, h3, h5, h4⟩ := h
 subst h1
 exact h2.below h4
theorem Env.maxv {B : Nat} {w : World} (h : Env B w) : MaxV w := by
 obtain ⟨w0, h1, h2, h3, h5, h4⟩ := h
 subst h1
 exact h3.below h4
theorem Env.errv {B : Nat} {w : World} (h : Env B w) : ErrVar w := by
 obtain ⟨w0, h1, h2, h3, h5, h4⟩ := h
 subst h1
 exact h5.below h4
theorem split_size (sep : ByteArray) (sv : Nat) : ∀ (k : Nat) (s p : ByteArray), p ∈ Lib.splitB sep sv k s → p.size ≤ s.size
 | 0, s, p, h => by
  simp [Lib.splitB] at h
  subst h; exact Nat.le_refl _
 | k + 1, s, p, h => by
  unfold Lib.splitB at h
  split at h
  · simp at h; subst h; exact Nat.le_refl _
  · rcases List.mem_cons.1 h with rfl | h
    · rw [ByteArray.size_extract]; omega
    · have := split_size sep sv k _ p h
      rw [ByteArray.size_extract] at this
      omega
theorem parts_size (s : Bytes) {p : ByteArray} (h : p ∈ partsB s) : p.size ≤ s.length := by
 have h1 := split_size _ _ _ _ _ h
 have h2 := trim_le s
 have h3 : (⟨(Lib.trimSuffix s [58]).toArray⟩ : ByteArray).size = (Lib.trimSuffix s [58]).length := rfl
 omega
set_option maxRecDepth 100000 in
set_option maxHeartbeats 3200000 in
theorem spread_any (B b : Nat) (acc : Bytes) (s : Bytes) (Inv : World → Prop) (kf : Nat) (cap : Array Value) (g : Nat → Bytes) (hs : s.length ≤ 1000000) (w : World) (hI : Lib.IsBuilder OT U8 B b (Lib.byteCells acc) w) (hB : B ≤ w.heap.size) (hE : Env B w) (hInv : Inv w)
  (hbh : Behind B b Inv kf cap g (partsL s).length 140737488355328) (hlen : acc.length + (spreadT s g (partsL s).length).length ≤ 140737488355328) :
  Calls Tryz.prog 79 #[.pointer (some ⟨b, 0, none⟩), strV s, .func (.func kf) #[] cap] w (Wr B b acc (spreadT s g (partsL s).length) w) := by
 have hP := parts_any s hs w hE.maxv
 obtain ⟨hen, hkeep, hcall⟩ := hbh
 have hpl : (partsL s).length = (partsB s).length := by rw [parts_eq, List.length_map]
 obtain ⟨n, hn⟩ : ∃ n, (partsB s).length = n := ⟨_, rfl⟩
 rw [hpl, hn] at hcall hlen ⊢
 rw [hn] at hP
 have HP := Lib.hid hP
 have HC := Lib.hid hcall
 have HKP := Lib.hid hkeep
 have HLN := Lib.hid hlen
 have HN := Lib.hid hn
 have HST := Lib.hid (St.start hI hB)
 have HE := Lib.hid hE
 have HI := Lib.hid hInv
 unfold Ent at hen
 unfold strV
 clear hP hcall hkeep hlen hn hI hE hInv hpl
 unfold strV at HP
 go_enter Tryz.func79, Tryz.ntmps79
 go_wp2_with fail
 refine HP.out.mono ?_; rintro e w1 ⟨hb1, gg, c, rfl, hn6, cs, hk1, hcs⟩
 have HST1 := Lib.hid (HST.out.go hb1)
 have HI1 := Lib.hid (HKP.out w w1 HI.out (KeepT.of hb1) (hb1.mono HST.out.siz))
 have hgb := isb_blk HST1.out.isb hk1 (by decide)
 have HK1 := Lib.hid hk1
 have HCS := Lib.hid hcs
 have hgl := hk1.lt
 clear hb1 hk1 hcs HST
 go_wp2_with fail
 go_loopw [11, 6, 7] (fun y _ _ wr => ∃ k : Nat, y = .int .i64 (k : Int) ∧ k ≤ n ∧ Hid (St B b (acc ++ spreadT s g k) w wr) ∧ Hid (Inv wr) ∧ Hid (KeepT b U8 w1 wr)) (fun y _ _ _ => n - (intOf y).toNat)
 case atStart => exact ⟨0, rfl, Nat.zero_le _, Lib.hid (by simpa [spreadT, joinF] using HST1.out), HI1, Lib.hid (KeepT.refl _ _ _)⟩
 case round =>
  obtain ⟨k, rfl, hk, hst, hinv, hkp⟩ := hrel
  by_cases hkn : k < n
  · have hdec : decide ((k : Int) < (n : Int)) = true := by simpa using hkn
    have hkw : IntKind.i64.wrap ((k : Int) + 1) = (k : Int) + 1 := IntWalk.i64_in _ (by omega)
    have hx := List.getElem?_eq_getElem (show k < (partsB s).length by rw [HN.out]; exact hkn)
    obtain ⟨p, hpp⟩ : ∃ p, (partsB s)[k]'(by rw [HN.out]; exact hkn) = p := ⟨_, rfl⟩
    rw [hpp] at hx
    have hk2 := hkp.out.blk HK1.out hgb (by decide)
    have c0 : wr.cell? ⟨gg, k, none⟩ = some (.string p) := hk2.c k _ (HCS.out k p hx)
    have hl2 := hk2.lt
    have HCP := Lib.hid (HCS.out k p hx)
    obtain ⟨u, hu⟩ : ∃ u, Lib.trimSuffix p.data.toList [58] = u := ⟨_, rfl⟩
    have hgd : (partsL s).getD k [] = u := by
     rw [parts_eq, List.getD_eq_getElem?_getD, List.getElem?_map, hx]
     exact hu
    have hstep : spreadT s g (k + 1) = spreadT s g k ++ ((if k = 0 then [] else [32]) ++ (u ++ ([58, 32] ++ g k))) := by
     unfold spreadT
     rw [joinF_succ, hgd]
    have hle : (spreadT s g (k + 1)).length ≤ (spreadT s g n).length := joinF_le _ _ (by omega)
    have hT := fun (hps : p.size ≤ 9223372036854775807) w' => Tryz.strings_TrimSuffix p ⟨#[58]⟩ w' hps
    rw [hstep] at hle
    simp only [List.length_append] at hle
    have hL := HLN.out
    have HSTEP := Lib.hid hstep
    have hBw := hst.out.siz
    have hps : p.size ≤ 9223372036854775807 := by have := parts_size s (List.mem_of_getElem? hx); omega
    have HT : Hid (∀ w', Calls Tryz.prog 134 #[.string p, .string ⟨#[58]⟩] w' (fun e w'' => e = .returned (.string ⟨u.toArray⟩) ∧ w'' = w')) := Lib.hid (fun w' => by have := hT hps w'; rw [← hu]; exact this)
    have HCK := Lib.hid (HC.out k)
    clear hx hpp hk2 hu hgd hstep hT hps
    by_cases hk0 : k = 0
    · have hk1 : decide (0 < k) = false := decide_eq_false (by omega)
      have KP2 : KeepT b U8 wr wr := KeepT.refl _ _ _
      have BL2 : Below B wr wr := Below.refl _ _
      rw [if_pos hk0] at hle
      simp only [List.length_nil, Nat.zero_add] at hle
      have HK0 := Lib.hid hk0
      clear hk0
      go_wp2_with fail
      refine (HT.out _).mono ?_; rintro e w2 ⟨rfl, hw2⟩; obtain rfl := hw2.symm
      go_wp2_with fail
      refine (put2 u [58, 32] hst.out.isb (by simp only [List.length_append, List.length_cons, List.length_nil] at hle ⊢; omega) hst.out.siz).mono ?_; rintro e w3 hW3
      obtain rfl := hW3.1
      have HST3 := Lib.hid (hst.out.step hW3)
      have HI3 := Lib.hid (HKP.out wr w3 hinv.out (KP2.trans hW3.2.2.2) (BL2.trans hW3.2.2.1))
      have HK3 := Lib.hid (hkp.out.trans (KP2.trans hW3.2.2.2))
      clear hW3
      have HCC := Lib.hid (HCK.out _ w3 hkn HI3.out HST3.out.isb HST3.out.siz (by simp only [List.length_append, List.length_cons, List.length_nil] at hle ⊢; omega))
      go_wp2_with fail
      refine HCC.out.mono ?_; rintro e w4 hW4
      obtain rfl := hW4.1
      have HST4 := Lib.hid (HST3.out.step hW4)
      have HI4 := Lib.hid (HKP.out w3 w4 HI3.out hW4.2.2.2 hW4.2.2.1)
      have HK4 := Lib.hid (HK3.out.trans hW4.2.2.2)
      clear hW4
      have HST5 : Hid (St B b (acc ++ spreadT s g (k + 1)) w w4) := Lib.hid (by
       have h := HST4.out
       rw [HSTEP.out]
       simpa [HK0.out] using h)
      go_wp2_with fail
      exact ⟨⟨k + 1, by simp, by omega, HST5, HI4, HK4⟩, by simp only [intOf]; omega⟩
    · have hk1 : decide (0 < k) = true := decide_eq_true (by omega)
      rw [if_neg hk0] at hle
      go_wp2_with fail
      refine (put1 [32] hst.out.isb (by simp only [List.length_append, List.length_cons, List.length_nil] at hle ⊢; omega) hst.out.siz).mono ?_; rintro e w2 hW2
      obtain rfl := hW2.1
      have HST2 := Lib.hid (hst.out.step hW2)
      have KP2 := hW2.2.2.2
      have BL2 := hW2.2.2.1
      have c1 : w2.cell? ⟨gg, k, none⟩ = some (.string p) := ((hkp.out.trans KP2).blk HK1.out hgb (by decide)).c k _ (HCP.out)
      clear hW2
      go_wp2_with fail
      refine (HT.out _).mono ?_; rintro e w2' ⟨rfl, hw2⟩; obtain rfl := hw2.symm
      go_wp2_with fail
      refine (put2 u [58, 32] HST2.out.isb (by simp only [List.length_append, List.length_cons, List.length_nil] at hle ⊢; omega) HST2.out.siz).mono ?_; rintro e w3 hW3
      obtain rfl := hW3.1
      have HST3 := Lib.hid (HST2.out.step hW3)
      have HI3 := Lib.hid (HKP.out wr w3 hinv.out (KP2.trans hW3.2.2.2) (BL2.trans hW3.2.2.1))
      have HK3 := Lib.hid (hkp.out.trans (KP2.trans hW3.2.2.2))
      clear hW3
      have HCC := Lib.hid (HCK.out _ w3 hkn HI3.out HST3.out.isb HST3.out.siz (by simp only [List.length_append, List.length_cons, List.length_nil] at hle ⊢; omega))
      go_wp2_with fail
      refine HCC.out.mono ?_; rintro e w4 hW4
      obtain rfl := hW4.1
      have HST4 := Lib.hid (HST3.out.step hW4)
      have HI4 := Lib.hid (HKP.out w3 w4 HI3.out hW4.2.2.2 hW4.2.2.1)
      have HK4 := Lib.hid (HK3.out.trans hW4.2.2.2)
      clear hW4
      have HST5 : Hid (St B b (acc ++ spreadT s g (k + 1)) w w4) := Lib.hid (by
       have h := HST4.out
       rw [HSTEP.out]
       simpa [hk0] using h)
      go_wp2_with fail
      exact ⟨⟨k + 1, by simp, by omega, HST5, HI4, HK4⟩, by simp only [intOf]; omega⟩
  · obtain rfl : k = n := by omega
    have hdec : decide ((k : Int) < (k : Int)) = false := by simp
    go_wp2_with fail
    go_end0
    exact hst.out.done
end Tr
end Go.Proofs.YtbdgoimbddlcoaaGreatDoor
