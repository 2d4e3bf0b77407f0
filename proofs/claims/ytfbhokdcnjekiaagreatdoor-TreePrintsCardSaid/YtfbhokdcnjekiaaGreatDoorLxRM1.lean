/- The reference's lexer, 1: bytes, names, keywords, operators. · The reference's lexer, 2: keywords, operators. · The reference's lexer, 3: Skip, text (wip/gen/gen_r3.py prints this). · The reference's lexer, 4: text. · The reference's lexer, 5: symbol (wip/gen/gen_r5.py prints this). · The reference's lexer, 6: symbol's word (wip/gen/gen_r5.py prints this). · The reference's Parse, byte by byte. Printed by wip/gen/gen_rparse.py. -/
import Derived.Test.YtfbhokdcnjekiaaGreatDoorLxE3
import Derived.Test.YtfbhokdcnjekiaaGreatDoorLxWb
set_option linter.unusedVariables false
namespace Go.Proofs.YtfbhokdcnjekiaaGreatDoor
open Go.RowKit
namespace Lx
set_option maxHeartbeats 1000000 in
theorem rletter_any (c : UInt8) (w : World) : Calls Tryz.prog 84 #[.int .u8 (c.toNat : Int)] w (Done (.bool (letter c)) w) := by
 have hc := c.toNat_lt
 have hl : letter c = ((decide (97 ≤ c.toNat) && decide (c.toNat ≤ 122)) || (decide (65 ≤ c.toNat) && decide (c.toNat ≤ 90))) := rfl
 have HL := Lib.hid hl; clear hl
 rcases (show c.toNat < 65 ∨ (65 ≤ c.toNat ∧ c.toNat ≤ 90) ∨ (91 ≤ c.toNat ∧ c.toNat ≤ 96) ∨ (97 ≤ c.toNat ∧ c.toNat ≤ 122) ∨ 122 < c.toNat by omega) with h | ⟨h, h'⟩ | ⟨h, h'⟩ | ⟨h, h'⟩ | h
 all_goals
  go_enter Tryz.func84, Tryz.ntmps84
  go_wp2
  go_ret
  exact ⟨ret1 (vbool (by rw [HL.out, Bool.eq_iff_iff]; constructor <;> intro hh <;> simp at hh ⊢ <;> omega)), rfl⟩
set_option maxHeartbeats 1000000 in
theorem rdigit_any (c : UInt8) (w : World) : Calls Tryz.prog 103 #[.int .u8 (c.toNat : Int)] w (Done (.bool (digit c)) w) := by
 have hc := c.toNat_lt
 have hl : digit c = (decide (48 ≤ c.toNat) && decide (c.toNat ≤ 57)) := rfl
 have HL := Lib.hid hl; clear hl
 rcases (show c.toNat < 48 ∨ (48 ≤ c.toNat ∧ c.toNat ≤ 57) ∨ 57 < c.toNat by omega) with h | ⟨h, h'⟩ | h
 all_goals
  go_enter Tryz.func103, Tryz.ntmps103
  go_wp2
  go_ret
  exact ⟨ret1 (vbool (by rw [HL.out, Bool.eq_iff_iff]; constructor <;> intro hh <;> simp at hh ⊢ <;> omega)), rfl⟩
set_option maxRecDepth 100000 in
theorem opc_cases (c : UInt8) : (opc c = true ∧ (c = 43 ∨ c = 45 ∨ c = 42 ∨ c = 47 ∨ c = 92 ∨ c = 126 ∨ c = 60 ∨ c = 62 ∨ c = 61 ∨ c = 38 ∨ c = 44 ∨ c = 64 ∨ c = 37 ∨ c = 63)) ∨ (opc c = false ∧ c ≠ 43 ∧ c ≠ 45 ∧ c ≠ 42 ∧ c ≠ 47 ∧ c ≠ 92 ∧ c ≠ 126 ∧ c ≠ 60 ∧ c ≠ 62 ∧ c ≠ 61 ∧ c ≠ 38 ∧ c ≠ 44 ∧ c ≠ 64 ∧ c ≠ 37 ∧ c ≠ 63) := by
 have hh : ∀ n : Fin 256, (opc (UInt8.ofNat n.val) = true ∧ (UInt8.ofNat n.val = 43 ∨ UInt8.ofNat n.val = 45 ∨ UInt8.ofNat n.val = 42 ∨ UInt8.ofNat n.val = 47 ∨ UInt8.ofNat n.val = 92 ∨ UInt8.ofNat n.val = 126 ∨ UInt8.ofNat n.val = 60 ∨ UInt8.ofNat n.val = 62 ∨ UInt8.ofNat n.val = 61 ∨ UInt8.ofNat n.val = 38 ∨ UInt8.ofNat n.val = 44 ∨ UInt8.ofNat n.val = 64 ∨ UInt8.ofNat n.val = 37 ∨ UInt8.ofNat n.val = 63)) ∨ (opc (UInt8.ofNat n.val) = false ∧ UInt8.ofNat n.val ≠ 43 ∧ UInt8.ofNat n.val ≠ 45 ∧ UInt8.ofNat n.val ≠ 42 ∧ UInt8.ofNat n.val ≠ 47 ∧ UInt8.ofNat n.val ≠ 92 ∧ UInt8.ofNat n.val ≠ 126 ∧ UInt8.ofNat n.val ≠ 60 ∧ UInt8.ofNat n.val ≠ 62 ∧ UInt8.ofNat n.val ≠ 61 ∧ UInt8.ofNat n.val ≠ 38 ∧ UInt8.ofNat n.val ≠ 44 ∧ UInt8.ofNat n.val ≠ 64 ∧ UInt8.ofNat n.val ≠ 37 ∧ UInt8.ofNat n.val ≠ 63) := by decide
 have := hh ⟨c.toNat, c.toNat_lt⟩
 simp only [UInt8.ofNat_toNat] at this
 exact this
set_option maxRecDepth 100000 in
set_option maxHeartbeats 4000000 in
theorem roper_byte (c : UInt8) (w : World) : Calls Tryz.prog 104 #[.int .u8 (c.toNat : Int)] w (Done (.bool (opc c)) w) := by
 rcases opc_cases c with ⟨ho, h⟩ | ⟨ho, h1, h2, h3, h4, h5, h6, h7, h8, h9, h10, h11, h12, h13, h14⟩
 · rw [ho]
   clear ho
   rcases h with rfl | rfl | rfl | rfl | rfl | rfl | rfl | rfl | rfl | rfl | rfl | rfl | rfl | rfl
   all_goals
    go_enter Tryz.func104, Tryz.ntmps104
    go_wp2
    go_ret
    exact ⟨rfl, rfl⟩
 · rw [ho]
   have g1 := bne_u8 c 43 (by omega) h1
   have g2 := bne_u8 c 45 (by omega) h2
   have g3 := bne_u8 c 42 (by omega) h3
   have g4 := bne_u8 c 47 (by omega) h4
   have g5 := bne_u8 c 92 (by omega) h5
   have g6 := bne_u8 c 126 (by omega) h6
   have g7 := bne_u8 c 60 (by omega) h7
   have g8 := bne_u8 c 62 (by omega) h8
   have g9 := bne_u8 c 61 (by omega) h9
   have g10 := bne_u8 c 38 (by omega) h10
   have g11 := bne_u8 c 44 (by omega) h11
   have g12 := bne_u8 c 64 (by omega) h12
   have g13 := bne_u8 c 37 (by omega) h13
   have g14 := bne_u8 c 63 (by omega) h14
   clear ho h1 h2 h3 h4 h5 h6 h7 h8 h9 h10 h11 h12 h13 h14
   go_enter Tryz.func104, Tryz.ntmps104
   go_wp2
   go_ret
   exact ⟨rfl, rfl⟩
variable {s : ByteArray} {at_ : Nat} {w : World}
set_option maxRecDepth 100000 in
set_option maxHeartbeats 2000000 in
theorem rname_any (hs : s.size ≤ 140737488355327) (hat : at_ ≤ s.size) :
  Calls Tryz.prog 72 #[.string s, .int .i64 (at_ : Int)] w (Done (.int .i64 ((at_ + nameL (s.data.toList.drop at_) : Nat) : Int)) w) := by
 rcases Nat.lt_or_ge at_ s.size with hlt | hge
 · obtain ⟨c, hc⟩ : ∃ c, s[at_] = c := ⟨_, rfl⟩
   have hhd : hd (s.data.toList.drop at_) 0 = c := by rw [← hc]; exact hd_drop s at_ 0 hlt
   have hnm : nameL (s.data.toList.drop at_) = if letter c then ((s.data.toList.drop at_).takeWhile alnum).length else 0 := by unfold nameL; rw [hhd]
   have h1 : ¬ s.size ≤ at_ := by omega
   have h2 : (at_ : Int) < (s.size : Int) := by omega
   cases hl : letter c
   · rw [hl] at hnm
     have hnm : nameL (s.data.toList.drop at_) = 0 := hnm
     rw [hnm]
     clear hnm hhd
     go_enter Tryz.func72, Tryz.ntmps72
     go_wp2_with fail
     refine (rletter_any _ _).mono ?_; rintro e w' ⟨rfl, rfl⟩
     rw [hl]
     go_wp2_with fail
     go_ret
     exact ⟨rfl, rfl⟩
   · rw [hl] at hnm
     have hnm : nameL (s.data.toList.drop at_) = ((s.data.toList.drop at_).takeWhile alnum).length := hnm
     rw [hnm]
     obtain ⟨z, hz⟩ : ∃ z, at_ + ((s.data.toList.drop at_).takeWhile alnum).length = z := ⟨_, rfl⟩
     have H2 : z ≤ s.size := by rw [← hz]; exact tw_fit alnum s at_ hat
     have H3 : ∀ k, (h : k < s.size) → at_ ≤ k → k < z → alnum s[k] = true := fun k h h1 h2 => tw_in alnum s at_ k h h1 (by rw [hz]; exact h2)
     have H4 : (h : z < s.size) → alnum s[z] = false := by subst hz; exact fun h => tw_out alnum s at_ h
     have hz0 : at_ ≤ z := by omega
     rw [hz]
     have G3 := Lib.hid H3
     have G4 := Lib.hid H4
     clear hnm hhd H3 H4 hz
     go_enter Tryz.func72, Tryz.ntmps72
     go_wp2_with fail
     refine (rletter_any _ _).mono ?_; rintro e w' ⟨rfl, rfl⟩
     rw [hl]
     go_wp2_with fail
     go_loop [1] (fun y => ∃ k : Nat, y = .int .i64 (k : Int) ∧ at_ ≤ k ∧ k ≤ z) (fun y => s.size - (intOf y).toNat)
     case atStart => exact ⟨at_, rfl, Nat.le_refl _, hz0⟩
     case round =>
      obtain ⟨k, rfl, hk1, hk2⟩ := hrel
      clear hc hl h1 h2 hlt
      by_cases hks : k < s.size
      · have hki : (k : Int) < (s.size : Int) := by omega
        have hkw : IntKind.i64.wrap ((k : Int) + 1) = (k : Int) + 1 := IntWalk.i64_in _ (by omega)
        by_cases hkz : k < z
        · have ha := G3.out k hks hk1 hkz
          unfold alnum at ha
          cases hl : letter s[k]
          · rw [hl] at ha
            have hdg : digit s[k] = true := ha
            clear ha
            go_wp2_with fail
            refine (rletter_any _ _).mono ?_; rintro e w' ⟨rfl, rfl⟩
            rw [hl]
            go_wp2_with fail
            refine (rdigit_any _ _).mono ?_; rintro e w' ⟨rfl, rfl⟩
            rw [hdg]
            go_wp2_with fail
            exact ⟨⟨k + 1, vint (by omega), by omega, by omega⟩, by simp only [intOf]; omega⟩
          · clear ha
            go_wp2_with fail
            refine (rletter_any _ _).mono ?_; rintro e w' ⟨rfl, rfl⟩
            rw [hl]
            go_wp2_with fail
            exact ⟨⟨k + 1, vint (by omega), by omega, by omega⟩, by simp only [intOf]; omega⟩
        · obtain rfl : k = z := by omega
          have ha := G4.out hks
          unfold alnum at ha
          rw [Bool.or_eq_false_iff] at ha
          obtain ⟨hl, hdg⟩ := ha
          go_wp2_with fail
          refine (rletter_any _ _).mono ?_; rintro e w' ⟨rfl, rfl⟩
          rw [hl]
          go_wp2_with fail
          refine (rdigit_any _ _).mono ?_; rintro e w' ⟨rfl, rfl⟩
          rw [hdg]
          go_wp2_with fail
          go_ret
          exact ⟨rfl, rfl⟩
      · have hki : ¬ (k : Int) < (s.size : Int) := by omega
        obtain rfl : k = z := by omega
        go_wp2_with fail
        go_ret
        exact ⟨rfl, rfl⟩
 · have hnm : nameL (s.data.toList.drop at_) = 0 := by unfold nameL; rw [hd_past s at_ 0 hge]; rfl
   rw [hnm]
   have h1 : s.size ≤ at_ := hge
   clear hnm
   go_enter Tryz.func72, Tryz.ntmps72
   go_wp2_with fail
   go_ret
   exact ⟨rfl, rfl⟩
end Lx
end Go.Proofs.YtfbhokdcnjekiaaGreatDoor
namespace Go.Proofs.YtfbhokdcnjekiaaGreatDoor
open Go.RowKit
namespace Lx
variable {s : ByteArray} {at_ : Nat} {w : World}
def kw1 (r : Bytes) : Nat := if nameL r = 0 then 0 else if colonB (r.drop (nameL r)) then nameL r + 1 else 0
theorem kw1_le (r : Bytes) : kw1 r ≤ r.length := by
 unfold kw1
 have h := nameL_le r
 split
 · omega
 · split
   · rename_i hc; have := colon_pos _ hc; rw [List.length_drop] at this; omega
   · omega
theorem kwL_kw1 (r : Bytes) : kwL r = if kw1 r = 0 then 0 else kw1 r + kwL (r.drop (kw1 r)) := by
 rw [kwL_step]
 unfold kw1
 by_cases h : nameL r = 0
 · rw [if_pos h, if_pos h]; rfl
 · rw [if_neg h, if_neg h]
   by_cases hc : colonB (r.drop (nameL r)) = true
   · rw [if_pos hc, if_pos hc, if_neg (by omega)]
   · rw [if_neg hc, if_neg hc]; rfl
theorem bneq_u8 (c : UInt8) (k : Nat) (hk : k < 256) (h : c ≠ UInt8.ofNat k) : ((c.toNat : Int) != (k : Int)) = true := by
 simp [bne, bne_u8 c k hk h]
set_option maxRecDepth 100000 in
set_option maxHeartbeats 2000000 in
theorem rkeyword_any (hs : s.size ≤ 140737488355327) (hat : at_ ≤ s.size) :
  Calls Tryz.prog 102 #[.string s, .int .i64 (at_ : Int)] w (Done (.int .i64 ((at_ + kw1 (s.data.toList.drop at_) : Nat) : Int)) w) := by
 have HN := fun v : World => rname_any (s := s) (at_ := at_) (w := v) hs hat
 have hnl := nameL_le (s.data.toList.drop at_)
 rw [dlen] at hnl
 have hk : kw1 (s.data.toList.drop at_) = if nameL (s.data.toList.drop at_) = 0 then 0 else if colonB (s.data.toList.drop (at_ + nameL (s.data.toList.drop at_))) then nameL (s.data.toList.drop at_) + 1 else 0 := by unfold kw1; rw [List.drop_drop]
 obtain ⟨n, hn⟩ : ∃ n, nameL (s.data.toList.drop at_) = n := ⟨_, rfl⟩
 rw [hn] at HN hnl hk
 rw [hk]
 have HN := Lib.hid HN
 clear hk hn
 by_cases h0 : n = 0
 · subst h0
   rw [if_pos rfl]
   have h1 : ¬ (at_ : Int) < ((at_ + 0 : Nat) : Int) := by omega
   go_enter Tryz.func102, Tryz.ntmps102
   go_wp2_with fail
   refine (HN.out _).mono ?_; rintro e w' ⟨rfl, rfl⟩
   go_wp2_with fail
   go_ret
   exact ⟨rfl, rfl⟩
 · rw [if_neg h0]
   obtain ⟨q, hq⟩ : ∃ q, at_ + n = q := ⟨_, rfl⟩
   rw [hq] at HN ⊢
   have h1 : (at_ : Int) < (q : Int) := by omega
   have h1n : at_ < q := by omega
   have hq2 : q ≤ s.size := by omega
   rcases Nat.lt_or_ge q s.size with hlt | hge
   · have h2 : (q : Int) < (s.size : Int) := by omega
     have hd0 := hd_drop s q 0 hlt
     by_cases h58 : s[q] = 58
     · have hb : ((s[q].toNat : Int) == 58) = true := by rw [h58]; rfl
       have hs1 : IntKind.i64.wrap ((q : Int) + 1) = (q : Int) + 1 := IntWalk.i64_in _ (by omega)
       by_cases hl : q + 1 = s.size
       · have hc : colonB (s.data.toList.drop q) = true := by
          unfold colonB
          rw [hd0, show s[q + 0] = 58 from h58, hd_past s q 1 (by omega)]; rfl
         rw [hc, if_pos rfl]
         have hle : ((q : Int) + 1 == (s.size : Int)) = true := by rw [beq_iff_eq]; omega
         clear hc hd0 h58
         go_enter Tryz.func102, Tryz.ntmps102
         go_wp2_with fail
         refine (HN.out _).mono ?_; rintro e w' ⟨rfl, rfl⟩
         go_wp2_with fail
         go_ret
         exact ⟨ret1 (vint (by omega)), rfl⟩
       · have hlt1 : q + 1 < s.size := by omega
         have hle : ((q : Int) + 1 == (s.size : Int)) = false := by rw [beq_eq_false_iff_ne]; omega
         have h3 : (q : Int) + 1 < (s.size : Int) := by omega
         have h4 : (0 : Int) ≤ (q : Int) + 1 := by omega
         have h5 : ((q : Int) + 1).toNat = q + 1 := by omega
         have hd1 := hd_drop s q 1 hlt1
         by_cases h61 : s[q + 1] = 61
         · have hc : colonB (s.data.toList.drop q) = false := by
            unfold colonB
            rw [hd0, hd1, show s[q + 0] = 58 from h58, h61]; rfl
           rw [hc, if_neg (by decide)]
           have hb2 : ((s[q + 1].toNat : Int) != 61) = false := by rw [h61]; rfl
           clear hc hd0 hd1 h58 h61
           go_enter Tryz.func102, Tryz.ntmps102
           go_wp2_with fail
           refine (HN.out _).mono ?_; rintro e w' ⟨rfl, rfl⟩
           go_wp2_with fail
           go_ret
           exact ⟨rfl, rfl⟩
         · have hc : colonB (s.data.toList.drop q) = true := by
            unfold colonB
            rw [hd0, hd1, show s[q + 0] = 58 from h58]; simpa using h61
           rw [hc, if_pos rfl]
           have hb2 : ((s[q + 1].toNat : Int) != 61) = true := bneq_u8 _ 61 (by omega) h61
           clear hc hd0 hd1 h58 h61
           go_enter Tryz.func102, Tryz.ntmps102
           go_wp2_with fail
           refine (HN.out _).mono ?_; rintro e w' ⟨rfl, rfl⟩
           go_wp2_with fail
           go_ret
           exact ⟨ret1 (vint (by omega)), rfl⟩
     · have hc : colonB (s.data.toList.drop q) = false := by
        unfold colonB
        rw [hd0]
        have : (s[q + 0] == 58) = false := by simpa using h58
        rw [this]; rfl
       rw [hc, if_neg (by decide)]
       have hb : ((s[q].toNat : Int) == 58) = false := bne_u8 _ 58 (by omega) h58
       clear hc hd0 h58
       go_enter Tryz.func102, Tryz.ntmps102
       go_wp2_with fail
       refine (HN.out _).mono ?_; rintro e w' ⟨rfl, rfl⟩
       go_wp2_with fail
       go_ret
       exact ⟨rfl, rfl⟩
   · have hc : colonB (s.data.toList.drop q) = false := by
      rw [List.drop_eq_nil_of_le (show s.data.toList.length ≤ q from hge)]; exact colonB_nil
     rw [hc, if_neg (by decide)]
     have h2 : ¬ (q : Int) < (s.size : Int) := by omega
     clear hc
     go_enter Tryz.func102, Tryz.ntmps102
     go_wp2_with fail
     refine (HN.out _).mono ?_; rintro e w' ⟨rfl, rfl⟩
     go_wp2_with fail
     go_ret
     exact ⟨rfl, rfl⟩
set_option maxRecDepth 100000 in
set_option maxHeartbeats 2000000 in
theorem rkeywords_any (hs : s.size ≤ 140737488355327) (hat : at_ ≤ s.size) :
  Calls Tryz.prog 71 #[.string s, .int .i64 (at_ : Int)] w (Done (.int .i64 ((at_ + kwL (s.data.toList.drop at_) : Nat) : Int)) w) := by
 obtain ⟨E, hE⟩ : ∃ E, at_ + kwL (s.data.toList.drop at_) = E := ⟨_, rfl⟩
 rw [hE]
 go_enter Tryz.func71, Tryz.ntmps71
 go_wp2
 go_loop [1] (fun y => ∃ k : Nat, y = .int .i64 (k : Int) ∧ k ≤ s.size ∧ Hid (k + kwL (s.data.toList.drop k) = E)) (fun y => s.size - (intOf y).toNat)
 case atStart => exact ⟨at_, rfl, hat, Lib.hid hE⟩
 case round =>
  obtain ⟨k, rfl, hk, HK⟩ := hrel
  clear hE
  have HC := fun v : World => rkeyword_any (s := s) (at_ := k) (w := v) hs hk
  have hst := kwL_kw1 (s.data.toList.drop k)
  have hle := kw1_le (s.data.toList.drop k)
  rw [dlen] at hle
  rw [List.drop_drop] at hst
  obtain ⟨n, hn⟩ : ∃ n, kw1 (s.data.toList.drop k) = n := ⟨_, rfl⟩
  rw [hn] at HC hst hle
  have HC := Lib.hid HC
  have HST := Lib.hid hst
  clear hn hst
  by_cases h0 : n = 0
  · have hEk : E = k := by rw [← HK.out, HST.out, if_pos h0]; rfl
    subst h0
    have h1 : ¬ (k : Int) < ((k + 0 : Nat) : Int) := by omega
    go_wp2_with fail
    refine (HC.out _).mono ?_; rintro e w' ⟨rfl, rfl⟩
    go_wp2_with fail
    go_ret
    exact ⟨ret1 (vint (by omega)), rfl⟩
  · have HK2 : Hid (k + n + kwL (s.data.toList.drop (k + n)) = E) := Lib.hid (by rw [← HK.out, HST.out, if_neg h0]; omega)
    obtain ⟨q, hq⟩ : ∃ q, k + n = q := ⟨_, rfl⟩
    rw [hq] at HC HK2
    have h1 : (k : Int) < (q : Int) := by omega
    have h1n : k < q := by omega
    clear HST HK
    go_wp2_with fail
    refine (HC.out _).mono ?_; rintro e w' ⟨rfl, rfl⟩
    go_wp2_with fail
    refine (HC.out _).mono ?_; rintro e w' ⟨rfl, rfl⟩
    go_wp2_with fail
    exact ⟨⟨q, rfl, by omega, HK2⟩, by simp only [intOf]; omega⟩
set_option maxRecDepth 100000 in
set_option maxHeartbeats 2000000 in
theorem roper_any (hs : s.size ≤ 140737488355327) (hat : at_ ≤ s.size) :
  Calls Tryz.prog 73 #[.string s, .int .i64 (at_ : Int)] w (Done (.int .i64 ((at_ + operL (s.data.toList.drop at_) : Nat) : Int)) w) := by
 rcases Nat.lt_or_ge at_ s.size with hlt | hge
 · have h1 : (at_ : Int) < (s.size : Int) := by omega
   have h1b : ¬ s.size ≤ at_ := by omega
   have hd0 := hd_drop s at_ 0 hlt
   have hs1 : IntKind.i64.wrap ((at_ : Int) + 1) = (at_ : Int) + 1 := IntWalk.i64_in _ (by omega)
   have hs2 : IntKind.i64.wrap ((at_ : Int) + 2) = (at_ : Int) + 2 := IntWalk.i64_in _ (by omega)
   have hop : operL (s.data.toList.drop at_) = if s[at_] = 124 then 1 else if opc s[at_] then (if opc (hd (s.data.toList.drop at_) 1) && hd (s.data.toList.drop at_) 1 != 45 then 2 else 1) else 0 := by unfold operL; rw [hd0]; rfl
   by_cases h124 : s[at_] = 124
   · rw [if_pos h124] at hop
     rw [hop]
     have hb : ((s[at_].toNat : Int) == 124) = true := by rw [h124]; rfl
     clear hop hd0 h124
     go_enter Tryz.func73, Tryz.ntmps73
     go_wp2_with fail
     go_ret
     exact ⟨rfl, rfl⟩
   · rw [if_neg h124] at hop
     have hb : ((s[at_].toNat : Int) == 124) = false := bne_u8 _ 124 (by omega) h124
     cases ho : opc s[at_]
     · rw [ho] at hop
       have hop : operL (s.data.toList.drop at_) = 0 := hop
       rw [hop]
       clear hop hd0 h124
       go_enter Tryz.func73, Tryz.ntmps73
       go_wp2_with fail
       refine (roper_byte _ _).mono ?_; rintro e w' ⟨rfl, rfl⟩
       rw [ho]
       go_wp2_with fail
       go_ret
       exact ⟨rfl, rfl⟩
     · rw [ho, if_pos rfl] at hop
       rcases Nat.lt_or_ge (at_ + 1) s.size with hlt1 | hge1
       · have h3 : (at_ : Int) + 1 < (s.size : Int) := by omega
         have h4 : (0 : Int) ≤ (at_ : Int) + 1 := by omega
         have h5 : ((at_ : Int) + 1).toNat = at_ + 1 := by omega
         rw [hd_drop s at_ 1 hlt1] at hop
         cases ho2 : opc s[at_ + 1]
         · rw [ho2] at hop
           have hop : operL (s.data.toList.drop at_) = 1 := hop
           rw [hop]
           clear hop hd0 h124
           go_enter Tryz.func73, Tryz.ntmps73
           go_wp2_with fail
           refine (roper_byte _ _).mono ?_; rintro e w' ⟨rfl, rfl⟩
           rw [ho]
           go_wp2_with fail
           refine (roper_byte _ _).mono ?_; rintro e w' ⟨rfl, rfl⟩
           rw [ho2]
           go_wp2_with fail
           go_ret
           exact ⟨rfl, rfl⟩
         · by_cases h45 : s[at_ + 1] = 45
           · have hop : operL (s.data.toList.drop at_) = 1 := by rw [hop, ho2, h45]; rfl
             rw [hop]
             have hb2 : ((s[at_ + 1].toNat : Int) != 45) = false := by rw [h45]; rfl
             clear hop hd0 h124 h45
             go_enter Tryz.func73, Tryz.ntmps73
             go_wp2_with fail
             refine (roper_byte _ _).mono ?_; rintro e w' ⟨rfl, rfl⟩
             rw [ho]
             go_wp2_with fail
             refine (roper_byte _ _).mono ?_; rintro e w' ⟨rfl, rfl⟩
             rw [ho2]
             go_wp2_with fail
             go_ret
             exact ⟨rfl, rfl⟩
           · have hop : operL (s.data.toList.drop at_) = 2 := by rw [hop, ho2]; simp [h45]
             rw [hop]
             have hb2 : ((s[at_ + 1].toNat : Int) != 45) = true := bneq_u8 _ 45 (by omega) h45
             clear hop hd0 h124 h45
             go_enter Tryz.func73, Tryz.ntmps73
             go_wp2_with fail
             refine (roper_byte _ _).mono ?_; rintro e w' ⟨rfl, rfl⟩
             rw [ho]
             go_wp2_with fail
             refine (roper_byte _ _).mono ?_; rintro e w' ⟨rfl, rfl⟩
             rw [ho2]
             go_wp2_with fail
             go_ret
             exact ⟨rfl, rfl⟩
       · have h3 : ¬ (at_ : Int) + 1 < (s.size : Int) := by omega
         rw [hd_past s at_ 1 hge1] at hop
         have hop : operL (s.data.toList.drop at_) = 1 := hop
         rw [hop]
         clear hop hd0 h124
         go_enter Tryz.func73, Tryz.ntmps73
         go_wp2_with fail
         refine (roper_byte _ _).mono ?_; rintro e w' ⟨rfl, rfl⟩
         rw [ho]
         go_wp2_with fail
         go_ret
         exact ⟨rfl, rfl⟩
 · have hop : operL (s.data.toList.drop at_) = 0 := by rw [List.drop_eq_nil_of_le (show s.data.toList.length ≤ at_ from hge)]; rfl
   rw [hop]
   have h1 : s.size ≤ at_ := hge
   clear hop
   go_enter Tryz.func73, Tryz.ntmps73
   go_wp2_with fail
   go_ret
   exact ⟨rfl, rfl⟩
end Lx
end Go.Proofs.YtfbhokdcnjekiaaGreatDoor
namespace Go.Proofs.YtfbhokdcnjekiaaGreatDoor
open Go.RowKit
namespace Lx
variable {s : ByteArray} {at_ : Nat} {w : World}
theorem sk_here (k : Nat) (m : Option Nat) (h : k < s.size) : sk m k (s.data.toList.drop k) = sk m k (s[k] :: s.data.toList.drop (k + 1)) := by rw [drop_cons s k h]
theorem blank_cases (c : UInt8) : (c = 32 ∨ c = 9 ∨ c = 10 ∨ c = 13) ∧ blank c = true ∨ (c ≠ 32 ∧ c ≠ 9 ∧ c ≠ 10 ∧ c ≠ 13) ∧ blank c = false := by
 by_cases h1 : c = 32
 · subst h1; exact .inl ⟨.inl rfl, by decide⟩
 by_cases h2 : c = 9
 · subst h2; exact .inl ⟨.inr (.inl rfl), by decide⟩
 by_cases h3 : c = 10
 · subst h3; exact .inl ⟨.inr (.inr (.inl rfl)), by decide⟩
 by_cases h4 : c = 13
 · subst h4; exact .inl ⟨.inr (.inr (.inr rfl)), by decide⟩
 refine .inr ⟨⟨h1, h2, h3, h4⟩, ?_⟩
 unfold blank blanksL
 simp [h1, h2, h3, h4]
def Skp (x : Except Nat Nat) (w : World) (e : Ending) (w' : World) : Prop :=
 w = w' ∧ match x with
 | .ok n => e = .returned (.tuple #[.int .i64 (n : Int), .bool true])
 | .error n => e = .returned (.tuple #[.int .i64 (n : Int), .bool false])
set_option maxRecDepth 100000 in
set_option maxHeartbeats 3200000 in
theorem rskip_any (hs : s.size ≤ 140737488355327) (hat : at_ ≤ s.size) :
  Calls Tryz.prog 163 #[.string s, .int .i64 (at_ : Int)] w (Skp (sk none at_ (s.data.toList.drop at_)) w) := by
 obtain ⟨E, hE⟩ : ∃ E, sk none at_ (s.data.toList.drop at_) = E := ⟨_, rfl⟩
 rw [hE]
 go_enter Tryz.func163, Tryz.ntmps163
 go_wp2
 go_loop [1] (fun y => ∃ k : Nat, y = .int .i64 (k : Int) ∧ k ≤ s.size ∧ Hid (sk none k (s.data.toList.drop k) = E)) (fun y => s.size - (intOf y).toNat)
 case atStart => exact ⟨at_, rfl, hat, Lib.hid hE⟩
 case round =>
  obtain ⟨k, rfl, hk, HK⟩ := hrel
  clear hE
  have hkw : IntKind.i64.wrap ((k : Int) + 1) = (k : Int) + 1 := IntWalk.i64_in _ (by omega)
  by_cases hlt : k < s.size
  · have hki : (k : Int) < (s.size : Int) := by omega
    have hsk := (sk_here k none hlt).symm.trans HK.out
    rcases blank_cases s[k] with ⟨hc, hb⟩ | ⟨⟨h1, h2, h3, h4⟩, hb⟩
    · have HN : Hid (sk none (k + 1) (s.data.toList.drop (k + 1)) = E) := Lib.hid (by rw [← hsk]; simp only [sk]; rw [if_pos hb])
      clear hsk hb
      rcases hc with hc | hc | hc | hc
      · have n32 : ((s[k].toNat : Int) == 32) = true := by rw [hc]; rfl
        clear hc
        go_wp2_with fail
        exact ⟨⟨k + 1, vint (by omega), by omega, HN⟩, by simp only [intOf]; omega⟩
      · have n32 : ((s[k].toNat : Int) == 32) = false := by rw [hc]; rfl
        have n9 : ((s[k].toNat : Int) == 9) = true := by rw [hc]; rfl
        clear hc
        go_wp2_with fail
        exact ⟨⟨k + 1, vint (by omega), by omega, HN⟩, by simp only [intOf]; omega⟩
      · have n32 : ((s[k].toNat : Int) == 32) = false := by rw [hc]; rfl
        have n9 : ((s[k].toNat : Int) == 9) = false := by rw [hc]; rfl
        have n10 : ((s[k].toNat : Int) == 10) = true := by rw [hc]; rfl
        clear hc
        go_wp2_with fail
        exact ⟨⟨k + 1, vint (by omega), by omega, HN⟩, by simp only [intOf]; omega⟩
      · have n32 : ((s[k].toNat : Int) == 32) = false := by rw [hc]; rfl
        have n9 : ((s[k].toNat : Int) == 9) = false := by rw [hc]; rfl
        have n10 : ((s[k].toNat : Int) == 10) = false := by rw [hc]; rfl
        have n13 : ((s[k].toNat : Int) == 13) = true := by rw [hc]; rfl
        clear hc
        go_wp2_with fail
        exact ⟨⟨k + 1, vint (by omega), by omega, HN⟩, by simp only [intOf]; omega⟩
    · have n32 : ((s[k].toNat : Int) == 32) = false := bne_u8 s[k] 32 (by omega) h1
      have n9 : ((s[k].toNat : Int) == 9) = false := bne_u8 s[k] 9 (by omega) h2
      have n10 : ((s[k].toNat : Int) == 10) = false := bne_u8 s[k] 10 (by omega) h3
      have n13 : ((s[k].toNat : Int) == 13) = false := bne_u8 s[k] 13 (by omega) h4
      by_cases h34 : s[k] = 34
      · have q34 : ((s[k].toNat : Int) != 34) = false := by rw [h34]; rfl
        have HN : Hid (sk (some k) (k + 1) (s.data.toList.drop (k + 1)) = E) := Lib.hid (by rw [← hsk]; simp only [sk]; rw [hb, if_neg (by decide), if_pos h34])
        clear hsk hb h1 h2 h3 h4 h34
        go_wp2_with fail
        go_loop [7] (fun y => ∃ j : Nat, y = .int .i64 (j : Int) ∧ k + 1 ≤ j ∧ j ≤ s.size ∧ Hid (sk (some k) j (s.data.toList.drop j) = E)) (fun y => s.size - (intOf y).toNat)
        case atStart => exact ⟨k + 1, vint (by omega), Nat.le_refl _, by omega, HN⟩
        case round =>
         obtain ⟨j, rfl, hj1, hj2, HJ⟩ := hrel
         clear n32 n9 n10 n13 q34
         have hjw : IntKind.i64.wrap ((j : Int) + 1) = (j : Int) + 1 := IntWalk.i64_in _ (by omega)
         by_cases hjs : j < s.size
         · have hji : (j : Int) < (s.size : Int) := by omega
           have hjb : ((j : Int) == (s.size : Int)) = false := by rw [beq_eq_false_iff_ne]; omega
           have hsj := (sk_here j (some k) hjs).symm.trans HJ.out
           by_cases h34 : s[j] = 34
           · have p34 : ((s[j].toNat : Int) != 34) = false := by rw [h34]; rfl
             have HM : Hid (sk none (j + 1) (s.data.toList.drop (j + 1)) = E) := Lib.hid (by rw [← hsj]; simp only [sk]; rw [if_pos h34])
             clear hsj h34
             go_wp2_with fail
             exact ⟨⟨j + 1, vint (by omega), by omega, HM⟩, by simp only [intOf]; omega⟩
           · have p34 : ((s[j].toNat : Int) != 34) = true := bneq_u8 _ 34 (by omega) h34
             have HM : Hid (sk (some k) (j + 1) (s.data.toList.drop (j + 1)) = E) := Lib.hid (by rw [← hsj]; simp only [sk]; rw [if_neg h34])
             clear hsj h34
             go_wp2_with fail
             exact ⟨⟨j + 1, vint (by omega), by omega, by omega, HM⟩, by simp only [intOf]; omega⟩
         · have hji : ¬ (j : Int) < (s.size : Int) := by omega
           obtain rfl : j = s.size := by omega
           have hEE : E = .error k := by
            rw [← HJ.out, List.drop_eq_nil_of_le (show s.data.toList.length ≤ s.size from Nat.le_refl _)]; rfl
           go_wp2_with fail
           go_ret2
           exact ⟨rfl, rfl⟩
      · have q34 : ((s[k].toNat : Int) != 34) = true := bneq_u8 _ 34 (by omega) h34
        have hEE : E = .ok k := by rw [← hsk]; simp only [sk]; rw [hb, if_neg (by decide), if_neg h34]
        clear hsk hb h1 h2 h3 h4 h34
        go_wp2_with fail
        go_ret2
        exact ⟨rfl, rfl⟩
  · have hki : ¬ (k : Int) < (s.size : Int) := by omega
    obtain rfl : k = s.size := by omega
    have hEE : E = .ok s.size := by
     rw [← HK.out, List.drop_eq_nil_of_le (show s.data.toList.length ≤ s.size from Nat.le_refl _)]; rfl
    go_wp2_with fail
    go_ret2
    exact ⟨rfl, rfl⟩
end Lx
end Go.Proofs.YtfbhokdcnjekiaaGreatDoor
namespace Go.Proofs.YtfbhokdcnjekiaaGreatDoor
open Go.RowKit
namespace Lx
variable {s : ByteArray} {at_ : Nat} {w : World}
/-- What text hands back where the first quote stands at at_. -/
def Txd (at_ : Nat) (x : Option (Bytes × Nat)) (w : World) (e : Ending) (w' : World) : Prop :=
 Below w.heap.size w w' ∧ match x with
 | none => e = .returned (.tuple #[.string ⟨#[]⟩, .int .i64 (at_ : Int), .bool false])
 | some (l, z) => e = .returned (.tuple #[.string ⟨l.toArray⟩, .int .i64 (z : Int), .bool true])
/-- A row of bytes that the call owns. -/
def OwnB (B : Nat) (w : World) (v : Value) (l : Bytes) : Prop := w.ownsRow B U8 1 v l.length (l.map fun c => Value.int .u8 (c.toNat : Int))
theorem strOf_nums (l : Bytes) : strOfNums (l.map fun c => (c.toNat : Int)) = ⟨l.toArray⟩ := by
 unfold strOfNums
 apply ByteArray.ext
 apply Array.toList_inj.1
 simp [List.map_map, Function.comp_def]
theorem conv_nil (w : World) : (convert 68 9 (.slice none 0 0)).run Tryz.prog w = .ok (.string ⟨#[]⟩) w := by kernel_rfl
theorem ownB_conv {B : Nat} {w : World} {v : Value} {l : Bytes} (h : OwnB B w v l) : (convert 68 9 v).run Tryz.prog w = .ok (.string ⟨l.toArray⟩) w := by
 have hc := @World.ownsRow.cells _ _ _ _ _ _ _ h
 rcases h.2 with ⟨rfl, h0⟩ | ⟨g, cap, cur, rfl, hb, hg, hnc, hcm, _⟩
 · obtain rfl : l = [] := List.eq_nil_of_length_eq_zero h0
   exact conv_nil w
 · rw [← strOf_nums]
   refine run_convert_bytes_arg (P := Tryz.prog) w 68 5 Tryz.underlying68 Tryz.underlying5 g 0 l.length cap (l.map fun c => (c.toNat : Int)) (by simp) (fun i hi => ?_) 9 Tryz.underlying9
   have h1 := hc (g := g) rfl i (Value.int .u8 ((l[i].toNat : Nat) : Int)) (by rw [List.getElem?_map, List.getElem?_eq_getElem hi]; rfl)
   have ha : (⟨g, 0, none⟩ : Addr).add i = ⟨g, i, none⟩ := by unfold Addr.add; split <;> simp_all
   rw [ha] at h1
   rw [Nat.zero_add, h1]
   simp [List.getD_eq_getElem?_getD, List.getElem?_eq_getElem hi]
theorem cells1 (W : World) (T : TypeId) (v0 : Value) : ∀ j u, [v0][j]? = some u → (W.alloc (.cells #[v0] T)).cell? ((⟨W.heap.size, 0, none⟩ : Addr).add j) = some u := by
 intro j u hj
 match j, hj with
 | 0, hj => simp at hj; subst hj; simp [Addr.add]
 | n + 1, hj => simp at hj
theorem ownB_snoc {B : Nat} {w : World} {v : Value} {l : Bytes} {c : UInt8} (h : w.ownsRow B U8 1 v (l.length + 1) ((l.map fun c => Value.int .u8 (c.toNat : Int)) ++ [.int .u8 (c.toNat : Int)])) : OwnB B w v (l ++ [c]) := by
 unfold OwnB; simpa using h
set_option maxRecDepth 100000 in
set_option maxHeartbeats 3200000 in
theorem rtext_at (hs : s.size ≤ 140737488355327) (hat : at_ < s.size) :
  Calls Tryz.prog 165 #[.string s, .int .i64 (at_ : Int)] w (Txd at_ (moved2 [] (at_ + 1) (txt (s.data.toList.drop (at_ + 1)))) w) := by
 obtain ⟨E, hE⟩ : ∃ E, moved2 [] (at_ + 1) (txt (s.data.toList.drop (at_ + 1))) = E := ⟨_, rfl⟩
 rw [hE]
 have hsum : IntKind.i64.wrap ((at_ : Int) + 1) = (at_ : Int) + 1 := IntWalk.i64_in _ (by omega)
 obtain ⟨i0, hi', hz0, hz1, hz2⟩ := info_parts (show (Tryz.prog.info? U8).map (fun i => (i.zero, i.size, i.bytes)) = some (some (.int .u8 0), 1, 1) by kernel_rfl)
 have t37 : Tryz.prog.underlying 68 = some (.slice U8) := by kernel_rfl
 go_enter Tryz.func165, Tryz.ntmps165
 go_wp2
 go_loopw [7, 8] (fun v y wr => ∃ (i : Nat) (pre : Bytes), y = .int .i64 (i : Int) ∧ at_ + 1 ≤ i ∧ i ≤ s.size ∧ pre.length ≤ i ∧ Hid (moved2 pre i (txt (s.data.toList.drop i)) = E) ∧ OwnB w.heap.size wr v pre ∧ Below w.heap.size w wr) (fun _ y _ => s.size - (intOf y).toNat)
 case atStart => exact ⟨at_ + 1, [], vint (by omega), Nat.le_refl _, by omega, by simp, Lib.hid hE, World.ownsRow_nil w _ _ _, Below.refl _ _⟩
 case round =>
  obtain ⟨i, pre, rfl, hi1, hi2, hpre, HI, hown, hbel⟩ := hrel
  clear hE
  have hkw : IntKind.i64.wrap ((i : Int) + 1) = (i : Int) + 1 := IntWalk.i64_in _ (by omega)
  have hkw2 : IntKind.i64.wrap ((i : Int) + 2) = (i : Int) + 2 := IntWalk.i64_in _ (by omega)
  by_cases hlt : i < s.size
  · have hki : (i : Int) < (s.size : Int) := by omega
    by_cases hc : s[i] = 39
    · have hcb : ((s[i].toNat : Int) == 39) = true := by rw [hc]; rfl
      have hend : (i + 1 = s.size ∨ ∃ h : i + 1 < s.size, s[i + 1] ≠ 39) → E = some (pre, i + 1) := fun h => by
       rw [← HI.out]
       rcases h with h | ⟨h, hd⟩
       · rw [txt_last s i hlt hc h]; simp [moved2]; omega
       · rw [txt_end s i hlt hc h hd]; simp [moved2]; omega
      have hcv := ownB_conv hown
      by_cases h1 : i + 1 = s.size
      · have hEE := hend (.inl h1)
        have hn : ¬ (i : Int) + 1 < (s.size : Int) := by omega
        have HEE := Lib.hid hEE
        clear hend hc hEE
        go_wp2_with fail
        go_ret3
        rw [HEE.out]
        exact ⟨hbel, by simp only; rfl⟩
      · have h1' : i + 1 < s.size := by omega
        have hn : (i : Int) + 1 < (s.size : Int) := by omega
        have h4 : (0 : Int) ≤ (i : Int) + 1 := by omega
        have h5 : ((i : Int) + 1).toNat = i + 1 := by omega
        by_cases hd : s[i + 1] = 39
        · have hdb : ((s[i + 1].toNat : Int) == 39) = true := by rw [hd]; rfl
          have HN : Hid (moved2 (pre ++ [39]) (i + 2) (txt (s.data.toList.drop (i + 2))) = E) := Lib.hid (by
           rw [← HI.out, txt_two s i hlt hc h1' hd]
           cases txt (s.data.toList.drop (i + 2)) with
           | none => rfl
           | some x => simp [moved2]; omega)
          clear hend hc hd hcv
          go_wp2_with (at_builtin; refine wpList_append_own _ rfl _ _ 68 rfl w.heap.size U8 i0 (.int .u8 0) 1 1 t37 hi' hz0 hz1 hz2 rfl (by decide) _ _ _ rfl (World.ownsRow.alloc hown _) ⟨wr.heap.size, 0, none⟩ 1 1 [.int .u8 39] rfl rfl (cells1 wr U8 _) (by intro u hu; simp at hu; subst hu; rfl) (by unfold maxLen; omega) (by omega) (by have := hbel.size; simp; omega) ?_; intro v' w5 hown5 hgrow5 _; have ho5 := Lib.hid hown5; have hb5 := (hbel.alloc hbel.size _).grown hgrow5 (by have := hbel.size; simp; omega) (fun k hk => (hown.lt k hk).1); clear hown5 hgrow5)
          go_wp2_with fail
          exact ⟨⟨i + 2, pre ++ [39], vint (by omega), by omega, by omega, by simp; omega, HN, ownB_snoc (c := 39) ho5.out, hb5⟩, by simp only [intOf]; omega⟩
        · have hdb : ((s[i + 1].toNat : Int) == 39) = false := bne_u8 _ 39 (by omega) hd
          have hEE := hend (.inr ⟨h1', hd⟩)
          have HEE := Lib.hid hEE
          clear hend hc hd hEE
          go_wp2_with fail
          go_ret3
          rw [HEE.out]
          exact ⟨hbel, by simp only; rfl⟩
    · have hcb : ((s[i].toNat : Int) == 39) = false := bne_u8 _ 39 (by omega) hc
      have HN : Hid (moved2 (pre ++ [s[i]]) (i + 1) (txt (s.data.toList.drop (i + 1))) = E) := Lib.hid (by
       rw [← HI.out, txt_on s i hlt hc]
       cases txt (s.data.toList.drop (i + 1)) with
       | none => rfl
       | some x => simp [moved2]; omega)
      obtain ⟨c, hcc⟩ : ∃ c, s[i] = c := ⟨_, rfl⟩
      rw [hcc] at HN hcb
      clear hc
      go_wp2_with (at_builtin; refine wpList_append_own _ rfl _ _ 68 rfl w.heap.size U8 i0 (.int .u8 0) 1 1 t37 hi' hz0 hz1 hz2 rfl (by decide) _ _ _ rfl (World.ownsRow.alloc hown _) ⟨wr.heap.size, 0, none⟩ 1 1 [.int .u8 (c.toNat : Int)] rfl rfl (cells1 wr U8 _) (by intro u hu; simp at hu; subst hu; rfl) (by unfold maxLen; omega) (by omega) (by have := hbel.size; simp; omega) ?_; intro v' w5 hown5 hgrow5 _; have ho5 := Lib.hid hown5; have hb5 := (hbel.alloc hbel.size _).grown hgrow5 (by have := hbel.size; simp; omega) (fun k hk => (hown.lt k hk).1); clear hown5 hgrow5)
      go_wp2_with fail
      exact ⟨⟨i + 1, pre ++ [c], vint (by omega), by omega, by omega, by simp; omega, HN, ownB_snoc ho5.out, hb5⟩, by simp only [intOf]; omega⟩
  · have hki : ¬ (i : Int) < (s.size : Int) := by omega
    have hEE : E = none := by rw [← HI.out, txt_out s i (by omega)]; rfl
    have HEE := Lib.hid hEE
    clear hEE
    go_wp2_with fail
    go_ret3
    rw [HEE.out]
    exact ⟨hbel, rfl⟩
end Lx
end Go.Proofs.YtfbhokdcnjekiaaGreatDoor
namespace Go.Proofs.YtfbhokdcnjekiaaGreatDoor
open Go.RowKit
namespace Lx
variable {s : ByteArray} {at_ : Nat} {w : World}
theorem symL_ref (r : Bytes) : symL r = if kwL r = 0 then (if nameL r = 0 then operL r else nameL r) else kwL r := by
 unfold symL
 cases hl : letter (hd r 0)
 · have h1 : kwL r = 0 := kwL_letter hl
   have h2 : nameL r = 0 := by unfold nameL; rw [hl]; rfl
   rw [h1, h2, if_pos rfl, if_pos rfl]; rfl
 · rw [if_pos rfl]
   by_cases hk : kwL r = 0
   · rw [if_pos hk, if_pos hk]
     by_cases hn : nameL r = 0
     · rw [if_pos hn]
       obtain ⟨o1, o2⟩ := oper_letter hl
       have h3 : operL r = 0 := by unfold operL; rw [if_neg o1, o2]; rfl
       rw [h3, hn]
     · rw [if_neg hn]
   · rw [if_neg hk, if_neg hk]
theorem nexted_ok {a n : Nat} {t : Tok} {w w' : World} {v : Value} {p : Int} (hb : Below w.heap.size w w') (hv : v = tokV a t) (hp : p = ((a + n : Nat) : Int)) : Nexted a (.ok (t, n)) w (.returned (.tuple #[v, .int .i64 p, .int .i64 0])) w' := ⟨hb, by rw [hv, hp]⟩
theorem nexted_err {a p : Nat} {n : Int} {w w' : World} {v : Value} {q : Int} (hb : Below w.heap.size w w') (hv : v = tokV 0 ⟨0, [], 0, 0⟩) (hp : q = ((a + p : Nat) : Int)) : Nexted a (.error (p, n)) w (.returned (.tuple #[v, .int .i64 q, .int .i64 n])) w' := ⟨hb, by rw [hv, hp]⟩
abbrev R9 : Nat := 138
theorem below4 {B b : Nat} {w W : World} (h : Below B w W) (hb : B ≤ b) (u0 u1 u2 u3 : Value) : Below B w ((((W.setCell ⟨b, 0, none⟩ u0).setCell ⟨b, 1, none⟩ u1).setCell ⟨b, 2, none⟩ u2).setCell ⟨b, 3, none⟩ u3) :=
 (((h.setCell (p := ⟨b, 0, none⟩) hb _).setCell (p := ⟨b, 1, none⟩) hb _).setCell (p := ⟨b, 2, none⟩) hb _).setCell (p := ⟨b, 3, none⟩) hb _
set_option maxRecDepth 100000 in
set_option maxHeartbeats 3200000 in
theorem rsym_paren (hs : s.size ≤ 140737488355327) (hlt : at_ + 1 < s.size) (hc : s[at_ + 1] = 40) :
  Calls Tryz.prog 166 #[.string s, .int .i64 (at_ : Int)] w (Nexted at_ (symR (s.data.toList.drop (at_ + 1))) w) := by
 have hE : symR (s.data.toList.drop (at_ + 1)) = .ok (⟨15, [], 0, 0⟩, 2) := by
  unfold symR; rw [if_pos ((hd_drop s (at_ + 1) 0 hlt).trans hc)]
 rw [hE]
 have hs1 : IntKind.i64.wrap ((at_ : Int) + 1) = (at_ : Int) + 1 := IntWalk.i64_in _ (by omega)
 have hs2 : IntKind.i64.wrap ((at_ : Int) + 1 + 1) = (at_ : Int) + 1 + 1 := IntWalk.i64_in _ (by omega)
 have h2 : (at_ : Int) + 1 < (s.size : Int) := by omega
 have h4 : (0 : Int) ≤ (at_ : Int) + 1 := by omega
 have h5 : ((at_ : Int) + 1).toNat = at_ + 1 := by omega
 have n40 : ((s[at_ + 1].toNat : Int) == 40) = true := by rw [hc]; rfl
 clear hE hc
 go_enter Tryz.func166, Tryz.ntmps166
 go_wp2_with fail
 refine bodyPost_ret (v := .tuple #[.agg #[.int .i64 15, .string ⟨#[]⟩, .int .i64 0, .int .i64 (at_ : Int)], .int .i64 ((at_ : Int) + 1 + 1), .int .i64 0]) (by simp [results, Tryz.results166, go_sem]) rfl ?_
 exact nexted_ok (((Below.refl _ _).alloc (Nat.le_refl _) _).alloc (by simp) _) (by simp [tokV]) (by omega)
set_option maxRecDepth 100000 in
set_option maxHeartbeats 3200000 in
theorem rsym_quote (hs : s.size ≤ 140737488355327) (hlt : at_ + 1 < s.size) (hc : s[at_ + 1] = 39) :
  Calls Tryz.prog 166 #[.string s, .int .i64 (at_ : Int)] w (Nexted at_ (symR (s.data.toList.drop (at_ + 1))) w) := by
 have hdd : (s.data.toList.drop (at_ + 1)).drop 1 = s.data.toList.drop (at_ + 1 + 1) := by rw [List.drop_drop]
 have hsym : symR (s.data.toList.drop (at_ + 1)) = match txt (s.data.toList.drop (at_ + 1 + 1)) with
   | none => .error (0, 4)
   | some (w, n) => if 4096 < w.length then .error (0, 2) else if 64 < w.length then .error (0, 2) else .ok (⟨5, w, 0, 0⟩, n + 2) := by
  unfold symR
  rw [show hd (s.data.toList.drop (at_ + 1)) 0 = 39 from (hd_drop s (at_ + 1) 0 hlt).trans hc, if_neg (by decide), if_pos rfl, hdd]; rfl
 have HTX := fun v : World => rtext_at (s := s) (at_ := at_ + 1) (w := v) hs hlt
 obtain ⟨x, hx⟩ : ∃ x, txt (s.data.toList.drop (at_ + 1 + 1)) = x := ⟨_, rfl⟩
 rw [hx] at HTX hsym
 have h64w : ∀ l z, x = some (l, z) → l.length ≤ 140737488355327 := fun l z e => by
  have h1 := txt_cut _ l z (hx.trans e)
  have h2 := congrArg List.length h1
  have h3 := esc_len l
  simp only [List.length_take, List.length_append, List.length_drop, List.length_singleton] at h2
  have h4 : s.data.toList.length = s.size := rfl
  omega
 have hcast : ((at_ + 1 : Nat) : Int) = (at_ : Int) + 1 := by omega
 rw [hcast] at HTX
 have HTX := Lib.hid HTX
 have hs1 : IntKind.i64.wrap ((at_ : Int) + 1) = (at_ : Int) + 1 := IntWalk.i64_in _ (by omega)
 have hs2 : IntKind.i64.wrap ((at_ : Int) + 1 + 1) = (at_ : Int) + 1 + 1 := IntWalk.i64_in _ (by omega)
 have h2 : (at_ : Int) + 1 < (s.size : Int) := by omega
 have h4 : (0 : Int) ≤ (at_ : Int) + 1 := by omega
 have h5 : ((at_ : Int) + 1).toNat = at_ + 1 := by omega
 have n40 : ((s[at_ + 1].toNat : Int) == 40) = false := by rw [hc]; rfl
 have n39 : ((s[at_ + 1].toNat : Int) == 39) = true := by rw [hc]; rfl
 clear hc hdd hx hcast
 cases x with
 | none =>
  rw [show symR (s.data.toList.drop (at_ + 1)) = .error (0, 4) from hsym]
  clear hsym h64w
  have hT4 : Tk R9 w.heap.size 0 ⟨#[]⟩ 0 0 ((w.alloc (Obj.cells #[.int .i64 0, .string ⟨#[]⟩, .int .i64 0, .int .i64 0] R9)).alloc (Obj.cells #[.int .i64 5, .string ⟨#[]⟩, .int .i64 0, .int .i64 (at_ : Int)] R9)) := (Tk.made w).alloc _
  have hT7 : Tk R9 (w.heap.size + 1) 5 ⟨#[]⟩ 0 (at_ : Int) ((w.alloc (Obj.cells #[.int .i64 0, .string ⟨#[]⟩, .int .i64 0, .int .i64 0] R9)).alloc (Obj.cells #[.int .i64 5, .string ⟨#[]⟩, .int .i64 0, .int .i64 (at_ : Int)] R9)) := by
   have := Tk.made (T := R9) (kd := 5) (wd := ⟨#[]⟩) (n := 0) (a := (at_ : Int)) (w.alloc (Obj.cells #[.int .i64 0, .string ⟨#[]⟩, .int .i64 0, .int .i64 0] R9)); simpa using this
  have hB0 : Below w.heap.size w ((w.alloc (Obj.cells #[.int .i64 0, .string ⟨#[]⟩, .int .i64 0, .int .i64 0] R9)).alloc (Obj.cells #[.int .i64 5, .string ⟨#[]⟩, .int .i64 0, .int .i64 (at_ : Int)] R9)) := ((Below.refl _ _).alloc (Nat.le_refl _) _).alloc (by simp) _
  go_enter Tryz.func166, Tryz.ntmps166
  go_wp2_with fail
  refine (HTX.out _).mono ?_; rintro e w3 ⟨hb3, rfl⟩
  have hT4 := (hb3.block _ hT4.lt).trans hT4
  have hT7 := (hb3.block _ hT7.lt).trans hT7
  have hT4 : Tk R9 w.heap.size 0 ⟨#[]⟩ 0 0 w3 := hT4
  have hT7 : Tk R9 (w.heap.size + 1) 5 ⟨#[]⟩ 0 (at_ : Int) w3 := hT7
  have hb3 := hB0.trans (hb3.mono hB0.size)
  have e0 := hT4.c0
  have e1 := hT4.c1
  have e2 := hT4.c2
  have e3 := hT4.c3
  have ef := hT4.fz
  have g0 := hT7.c0
  have g1 := hT7.c1
  have g2 := hT7.c2
  have g3 := hT7.c3
  have gf := hT7.fz
  have hne5 : ¬ w.heap.size = w.heap.size + 1 := by omega
  have hne6 : ¬ w.heap.size + 1 = w.heap.size := by omega
  clear hB0
  go_wp2_with fail
  refine bodyPost_ret (v := .tuple #[.agg #[.int .i64 0, .string ⟨#[]⟩, .int .i64 0, .int .i64 0], .int .i64 ((at_ : Int)), .int .i64 4]) (by simp [results, Tryz.results166, go_sem, e0, e1, e2, e3]) rfl ?_
  exact nexted_err (below4 hb3 (Nat.le_refl _) _ _ _ _) (by simp [tokV]) (by omega)
 | some y =>
  obtain ⟨l, z⟩ := y
  simp only at hsym
  have h0 := HTX.out
  rw [show moved2 [] (at_ + 1 + 1) (some (l, z)) = some (l, z + (at_ + 1 + 1)) from rfl] at h0
  have HT2 := Lib.hid h0
  clear h0 HTX
  have hll : (⟨l.toArray⟩ : ByteArray).size = l.length := by simp [ByteArray.size]
  by_cases h64 : 64 < l.length
  · have hE : symR (s.data.toList.drop (at_ + 1)) = .error (0, 2) := by
     rw [hsym]; split
     · rfl
     · rfl
    rw [hE]
    have h64i : (64 : Int) < ((⟨l.toArray⟩ : ByteArray).size : Int) := by rw [hll]; omega
    obtain ⟨y, hy⟩ : ∃ y : ByteArray, (⟨l.toArray⟩ : ByteArray) = y := ⟨_, rfl⟩
    rw [hy] at h64i
    have HY := Lib.hid hy
    clear hsym h64w hll h64 hE hy
    have hT4 : Tk R9 w.heap.size 0 ⟨#[]⟩ 0 0 ((w.alloc (Obj.cells #[.int .i64 0, .string ⟨#[]⟩, .int .i64 0, .int .i64 0] R9)).alloc (Obj.cells #[.int .i64 5, .string ⟨#[]⟩, .int .i64 0, .int .i64 (at_ : Int)] R9)) := (Tk.made w).alloc _
    have hT7 : Tk R9 (w.heap.size + 1) 5 ⟨#[]⟩ 0 (at_ : Int) ((w.alloc (Obj.cells #[.int .i64 0, .string ⟨#[]⟩, .int .i64 0, .int .i64 0] R9)).alloc (Obj.cells #[.int .i64 5, .string ⟨#[]⟩, .int .i64 0, .int .i64 (at_ : Int)] R9)) := by
     have := Tk.made (T := R9) (kd := 5) (wd := ⟨#[]⟩) (n := 0) (a := (at_ : Int)) (w.alloc (Obj.cells #[.int .i64 0, .string ⟨#[]⟩, .int .i64 0, .int .i64 0] R9)); simpa using this
    have hB0 : Below w.heap.size w ((w.alloc (Obj.cells #[.int .i64 0, .string ⟨#[]⟩, .int .i64 0, .int .i64 0] R9)).alloc (Obj.cells #[.int .i64 5, .string ⟨#[]⟩, .int .i64 0, .int .i64 (at_ : Int)] R9)) := ((Below.refl _ _).alloc (Nat.le_refl _) _).alloc (by simp) _
    go_enter Tryz.func166, Tryz.ntmps166
    go_wp2_with fail
    refine (HT2.out _).mono ?_; rintro e w3 ⟨hb3, rfl⟩
    rw [HY.out]
    have hT4 := (hb3.block _ hT4.lt).trans hT4
    have hT7 := (hb3.block _ hT7.lt).trans hT7
    have hT4 : Tk R9 w.heap.size 0 ⟨#[]⟩ 0 0 w3 := hT4
    have hT7 : Tk R9 (w.heap.size + 1) 5 ⟨#[]⟩ 0 (at_ : Int) w3 := hT7
    have hb3 := hB0.trans (hb3.mono hB0.size)
    have e0 := hT4.c0
    have e1 := hT4.c1
    have e2 := hT4.c2
    have e3 := hT4.c3
    have ef := hT4.fz
    have g0 := hT7.c0
    have g1 := hT7.c1
    have g2 := hT7.c2
    have g3 := hT7.c3
    have gf := hT7.fz
    have hne5 : ¬ w.heap.size = w.heap.size + 1 := by omega
    have hne6 : ¬ w.heap.size + 1 = w.heap.size := by omega
    clear hB0
    go_wp2_with fail
    refine bodyPost_ret (v := .tuple #[.agg #[.int .i64 0, .string ⟨#[]⟩, .int .i64 0, .int .i64 0], .int .i64 ((at_ : Int)), .int .i64 2]) (by simp [results, Tryz.results166, go_sem, e0, e1, e2, e3]) rfl ?_
    exact nexted_err (below4 (hb3.setCell (p := ⟨w.heap.size + 1, 1, none⟩) (show w.heap.size ≤ w.heap.size + 1 by omega) _) (Nat.le_refl _) _ _ _ _) (by simp [tokV]) (by omega)
  · have hE : symR (s.data.toList.drop (at_ + 1)) = .ok (⟨5, l, 0, 0⟩, z + 2) := by
     rw [hsym, if_neg (by omega), if_neg h64]
    rw [hE]
    have h64i : ¬ (64 : Int) < ((⟨l.toArray⟩ : ByteArray).size : Int) := by rw [hll]; omega
    obtain ⟨y, hy⟩ : ∃ y : ByteArray, (⟨l.toArray⟩ : ByteArray) = y := ⟨_, rfl⟩
    rw [hy] at h64i
    have HY := Lib.hid hy
    clear hsym h64w hll h64 hE hy
    have hT4 : Tk R9 w.heap.size 0 ⟨#[]⟩ 0 0 ((w.alloc (Obj.cells #[.int .i64 0, .string ⟨#[]⟩, .int .i64 0, .int .i64 0] R9)).alloc (Obj.cells #[.int .i64 5, .string ⟨#[]⟩, .int .i64 0, .int .i64 (at_ : Int)] R9)) := (Tk.made w).alloc _
    have hT7 : Tk R9 (w.heap.size + 1) 5 ⟨#[]⟩ 0 (at_ : Int) ((w.alloc (Obj.cells #[.int .i64 0, .string ⟨#[]⟩, .int .i64 0, .int .i64 0] R9)).alloc (Obj.cells #[.int .i64 5, .string ⟨#[]⟩, .int .i64 0, .int .i64 (at_ : Int)] R9)) := by
     have := Tk.made (T := R9) (kd := 5) (wd := ⟨#[]⟩) (n := 0) (a := (at_ : Int)) (w.alloc (Obj.cells #[.int .i64 0, .string ⟨#[]⟩, .int .i64 0, .int .i64 0] R9)); simpa using this
    have hB0 : Below w.heap.size w ((w.alloc (Obj.cells #[.int .i64 0, .string ⟨#[]⟩, .int .i64 0, .int .i64 0] R9)).alloc (Obj.cells #[.int .i64 5, .string ⟨#[]⟩, .int .i64 0, .int .i64 (at_ : Int)] R9)) := ((Below.refl _ _).alloc (Nat.le_refl _) _).alloc (by simp) _
    go_enter Tryz.func166, Tryz.ntmps166
    go_wp2_with fail
    refine (HT2.out _).mono ?_; rintro e w3 ⟨hb3, rfl⟩
    rw [HY.out]
    have hT4 := (hb3.block _ hT4.lt).trans hT4
    have hT7 := (hb3.block _ hT7.lt).trans hT7
    have hT4 : Tk R9 w.heap.size 0 ⟨#[]⟩ 0 0 w3 := hT4
    have hT7 : Tk R9 (w.heap.size + 1) 5 ⟨#[]⟩ 0 (at_ : Int) w3 := hT7
    have hb3 := hB0.trans (hb3.mono hB0.size)
    have e0 := hT4.c0
    have e1 := hT4.c1
    have e2 := hT4.c2
    have e3 := hT4.c3
    have ef := hT4.fz
    have g0 := hT7.c0
    have g1 := hT7.c1
    have g2 := hT7.c2
    have g3 := hT7.c3
    have gf := hT7.fz
    have hne5 : ¬ w.heap.size = w.heap.size + 1 := by omega
    have hne6 : ¬ w.heap.size + 1 = w.heap.size := by omega
    clear hB0
    go_wp2_with fail
    refine bodyPost_ret (v := .tuple #[.agg #[.int .i64 5, .string y, .int .i64 0, .int .i64 (at_ : Int)], .int .i64 (((z + (at_ + 1 + 1) : Nat) : Int)), .int .i64 0]) (by simp [results, Tryz.results166, go_sem, e0, e1, e2, e3]) rfl ?_
    exact nexted_ok (below4 (hb3.setCell (p := ⟨w.heap.size + 1, 1, none⟩) (show w.heap.size ≤ w.heap.size + 1 by omega) _) (Nat.le_refl _) _ _ _ _) (by rw [← HY.out]; simp [tokV]) (by omega)
end Lx
end Go.Proofs.YtfbhokdcnjekiaaGreatDoor
namespace Go.Proofs.YtfbhokdcnjekiaaGreatDoor
open Go.RowKit
namespace Lx
variable {s : ByteArray} {at_ : Nat} {w : World}
set_option maxRecDepth 100000 in
set_option maxHeartbeats 3200000 in
theorem rsym_kw_in (hs : s.size ≤ 140737488355327) (hlt : at_ + 1 < s.size) (h40 : s[at_ + 1] ≠ 40) (h39 : s[at_ + 1] ≠ 39) (hK : kwL (s.data.toList.drop (at_ + 1)) ≠ 0) :
  Calls Tryz.prog 166 #[.string s, .int .i64 (at_ : Int)] w (Nexted at_ (symR (s.data.toList.drop (at_ + 1))) w) := by
 have hhd : hd (s.data.toList.drop (at_ + 1)) 0 = s[at_ + 1] := hd_drop s (at_ + 1) 0 hlt
 have hat : at_ + 1 ≤ s.size := by omega
 have hsym : symR (s.data.toList.drop (at_ + 1)) = if kwL (s.data.toList.drop (at_ + 1)) = 0 then .error (0, 3) else if 64 < kwL (s.data.toList.drop (at_ + 1)) then .error (0, 2) else .ok (⟨5, (s.data.toList.drop (at_ + 1)).take (kwL (s.data.toList.drop (at_ + 1))), 0, 0⟩, kwL (s.data.toList.drop (at_ + 1)) + 1) := by
  have h1 : symL (s.data.toList.drop (at_ + 1)) = kwL (s.data.toList.drop (at_ + 1)) := by rw [symL_ref, if_neg hK]
  unfold symR
  rw [hhd, if_neg h40, if_neg h39, h1]
 have hcast : ((at_ + 1 : Nat) : Int) = (at_ : Int) + 1 := by omega
 have HK := fun v : World => rkeywords_any (s := s) (at_ := at_ + 1) (w := v) (by omega) hat
 have hle := kwL_le (s.data.toList.drop (at_ + 1))
 rw [dlen] at hle
 obtain ⟨q, hq⟩ : ∃ q, kwL (s.data.toList.drop (at_ + 1)) = q := ⟨_, rfl⟩
 rw [hq] at hsym HK hle hK
 have hq2 : at_ + 1 + q ≤ s.size := by omega
 obtain ⟨Z, hZ⟩ : ∃ Z, at_ + 1 + q = Z := ⟨_, rfl⟩
 rw [hZ, hcast] at HK
 have hzb : ((Z : Int) == (at_ : Int) + 1) = false := by rw [beq_eq_false_iff_ne]; omega
 have hxl := ext_size s (at_ + 1) Z (by omega) (by omega)
 have hxw := ext_word s (at_ + 1) q hq2
 rw [hZ] at hxw
 obtain ⟨x, hx⟩ : ∃ x, s.extract (at_ + 1) Z = x := ⟨_, rfl⟩
 rw [hx] at hxl hxw
 have hz1 : (at_ : Int) + 1 ≤ (Z : Int) := by omega
 have hz2 : (Z : Int) ≤ (s.size : Int) := by omega
 have hz3 : at_ + 1 ≤ Z := by omega
 have hz4 : Z ≤ s.size := by omega
 have h5 : ((at_ : Int) + 1).toNat = at_ + 1 := by omega
 have HXW := Lib.hid hxw
 rw [if_neg hK] at hsym
 have HK := Lib.hid HK
 have hs1 : IntKind.i64.wrap ((at_ : Int) + 1) = (at_ : Int) + 1 := IntWalk.i64_in _ (by omega)
 have h2 : (at_ : Int) + 1 < (s.size : Int) := by omega
 have h4 : (0 : Int) ≤ (at_ : Int) + 1 := by omega
 have n40 : ((s[at_ + 1].toNat : Int) == 40) = false := bne_u8 _ 40 (by omega) h40
 have n39 : ((s[at_ + 1].toNat : Int) == 39) = false := bne_u8 _ 39 (by omega) h39
 clear h40 h39
 clear hcast hhd hK hxw hq
 by_cases h64 : 64 < q
 · have h64i : (64 : Int) < (x.size : Int) := by omega
   rw [if_pos h64] at hsym
   rw [hsym]
   clear hsym h64 hxl
   go_enter Tryz.func166, Tryz.ntmps166
   go_wp2_with fail
   refine (HK.out _).mono ?_; rintro e w' ⟨rfl, rfl⟩
   go_wp2_with fail
   refine bodyPost_ret (v := .tuple #[.agg #[.int .i64 0, .string ⟨#[]⟩, .int .i64 0, .int .i64 0], .int .i64 ((at_ : Int)), .int .i64 2]) (by simp [results, Tryz.results166, go_sem]) rfl ?_
   exact nexted_err (((Below.refl _ _).alloc (Nat.le_refl _) _).alloc (by simp) _) (by simp [tokV]) (by omega)
 · have h64i : ¬ (64 : Int) < (x.size : Int) := by omega
   rw [if_neg h64] at hsym
   rw [hsym]
   clear hsym h64 hxl
   go_enter Tryz.func166, Tryz.ntmps166
   go_wp2_with fail
   refine (HK.out _).mono ?_; rintro e w' ⟨rfl, rfl⟩
   go_wp2_with fail
   refine bodyPost_ret (v := .tuple #[.agg #[.int .i64 5, .string x, .int .i64 0, .int .i64 (at_ : Int)], .int .i64 ((Z : Int)), .int .i64 0]) (by simp [results, Tryz.results166, go_sem]) rfl ?_
   exact nexted_ok (((Below.refl _ _).alloc (Nat.le_refl _) _).alloc (by simp) _) (by rw [HXW.out]; simp [tokV]) (by omega)
set_option maxRecDepth 100000 in
set_option maxHeartbeats 3200000 in
theorem rsym_name_in (hs : s.size ≤ 140737488355327) (hlt : at_ + 1 < s.size) (h40 : s[at_ + 1] ≠ 40) (h39 : s[at_ + 1] ≠ 39) (hK : kwL (s.data.toList.drop (at_ + 1)) = 0) (hN : nameL (s.data.toList.drop (at_ + 1)) ≠ 0) :
  Calls Tryz.prog 166 #[.string s, .int .i64 (at_ : Int)] w (Nexted at_ (symR (s.data.toList.drop (at_ + 1))) w) := by
 have hhd : hd (s.data.toList.drop (at_ + 1)) 0 = s[at_ + 1] := hd_drop s (at_ + 1) 0 hlt
 have hat : at_ + 1 ≤ s.size := by omega
 have hsym : symR (s.data.toList.drop (at_ + 1)) = if nameL (s.data.toList.drop (at_ + 1)) = 0 then .error (0, 3) else if 64 < nameL (s.data.toList.drop (at_ + 1)) then .error (0, 2) else .ok (⟨5, (s.data.toList.drop (at_ + 1)).take (nameL (s.data.toList.drop (at_ + 1))), 0, 0⟩, nameL (s.data.toList.drop (at_ + 1)) + 1) := by
  have h1 : symL (s.data.toList.drop (at_ + 1)) = nameL (s.data.toList.drop (at_ + 1)) := by rw [symL_ref, if_pos hK, if_neg hN]
  unfold symR
  rw [hhd, if_neg h40, if_neg h39, h1]
 have hcast : ((at_ + 1 : Nat) : Int) = (at_ : Int) + 1 := by omega
 have HK := fun v : World => rkeywords_any (s := s) (at_ := at_ + 1) (w := v) (by omega) hat
 have HN := fun v : World => rname_any (s := s) (at_ := at_ + 1) (w := v) (by omega) hat
 rw [hK, Nat.add_zero, hcast] at HK
 have hle := nameL_le (s.data.toList.drop (at_ + 1))
 rw [dlen] at hle
 obtain ⟨q, hq⟩ : ∃ q, nameL (s.data.toList.drop (at_ + 1)) = q := ⟨_, rfl⟩
 rw [hq] at hsym HN hle hN
 have hq2 : at_ + 1 + q ≤ s.size := by omega
 obtain ⟨Z, hZ⟩ : ∃ Z, at_ + 1 + q = Z := ⟨_, rfl⟩
 rw [hZ, hcast] at HN
 have hzb : ((Z : Int) == (at_ : Int) + 1) = false := by rw [beq_eq_false_iff_ne]; omega
 have hxl := ext_size s (at_ + 1) Z (by omega) (by omega)
 have hxw := ext_word s (at_ + 1) q hq2
 rw [hZ] at hxw
 obtain ⟨x, hx⟩ : ∃ x, s.extract (at_ + 1) Z = x := ⟨_, rfl⟩
 rw [hx] at hxl hxw
 have hz1 : (at_ : Int) + 1 ≤ (Z : Int) := by omega
 have hz2 : (Z : Int) ≤ (s.size : Int) := by omega
 have hz3 : at_ + 1 ≤ Z := by omega
 have hz4 : Z ≤ s.size := by omega
 have h5 : ((at_ : Int) + 1).toNat = at_ + 1 := by omega
 have HXW := Lib.hid hxw
 rw [if_neg hN] at hsym
 have HK := Lib.hid HK
 have HN := Lib.hid HN
 have hs1 : IntKind.i64.wrap ((at_ : Int) + 1) = (at_ : Int) + 1 := IntWalk.i64_in _ (by omega)
 have h2 : (at_ : Int) + 1 < (s.size : Int) := by omega
 have h4 : (0 : Int) ≤ (at_ : Int) + 1 := by omega
 have n40 : ((s[at_ + 1].toNat : Int) == 40) = false := bne_u8 _ 40 (by omega) h40
 have n39 : ((s[at_ + 1].toNat : Int) == 39) = false := bne_u8 _ 39 (by omega) h39
 clear h40 h39
 clear hcast hhd hK hN hxw hq
 by_cases h64 : 64 < q
 · have h64i : (64 : Int) < (x.size : Int) := by omega
   rw [if_pos h64] at hsym
   rw [hsym]
   clear hsym h64 hxl
   go_enter Tryz.func166, Tryz.ntmps166
   go_wp2_with fail
   refine (HK.out _).mono ?_; rintro e w' ⟨rfl, rfl⟩
   go_wp2_with fail
   refine (HN.out _).mono ?_; rintro e w' ⟨rfl, rfl⟩
   go_wp2_with fail
   refine bodyPost_ret (v := .tuple #[.agg #[.int .i64 0, .string ⟨#[]⟩, .int .i64 0, .int .i64 0], .int .i64 ((at_ : Int)), .int .i64 2]) (by simp [results, Tryz.results166, go_sem]) rfl ?_
   exact nexted_err (((Below.refl _ _).alloc (Nat.le_refl _) _).alloc (by simp) _) (by simp [tokV]) (by omega)
 · have h64i : ¬ (64 : Int) < (x.size : Int) := by omega
   rw [if_neg h64] at hsym
   rw [hsym]
   clear hsym h64 hxl
   go_enter Tryz.func166, Tryz.ntmps166
   go_wp2_with fail
   refine (HK.out _).mono ?_; rintro e w' ⟨rfl, rfl⟩
   go_wp2_with fail
   refine (HN.out _).mono ?_; rintro e w' ⟨rfl, rfl⟩
   go_wp2_with fail
   refine bodyPost_ret (v := .tuple #[.agg #[.int .i64 5, .string x, .int .i64 0, .int .i64 (at_ : Int)], .int .i64 ((Z : Int)), .int .i64 0]) (by simp [results, Tryz.results166, go_sem]) rfl ?_
   exact nexted_ok (((Below.refl _ _).alloc (Nat.le_refl _) _).alloc (by simp) _) (by rw [HXW.out]; simp [tokV]) (by omega)
set_option maxRecDepth 100000 in
set_option maxHeartbeats 3200000 in
theorem rsym_oper_in (hs : s.size ≤ 140737488355327) (hlt : at_ + 1 < s.size) (h40 : s[at_ + 1] ≠ 40) (h39 : s[at_ + 1] ≠ 39) (hK : kwL (s.data.toList.drop (at_ + 1)) = 0) (hN : nameL (s.data.toList.drop (at_ + 1)) = 0) (hO : operL (s.data.toList.drop (at_ + 1)) ≠ 0) :
  Calls Tryz.prog 166 #[.string s, .int .i64 (at_ : Int)] w (Nexted at_ (symR (s.data.toList.drop (at_ + 1))) w) := by
 have hhd : hd (s.data.toList.drop (at_ + 1)) 0 = s[at_ + 1] := hd_drop s (at_ + 1) 0 hlt
 have hat : at_ + 1 ≤ s.size := by omega
 have hsym : symR (s.data.toList.drop (at_ + 1)) = if operL (s.data.toList.drop (at_ + 1)) = 0 then .error (0, 3) else if 64 < operL (s.data.toList.drop (at_ + 1)) then .error (0, 2) else .ok (⟨5, (s.data.toList.drop (at_ + 1)).take (operL (s.data.toList.drop (at_ + 1))), 0, 0⟩, operL (s.data.toList.drop (at_ + 1)) + 1) := by
  have h1 : symL (s.data.toList.drop (at_ + 1)) = operL (s.data.toList.drop (at_ + 1)) := by rw [symL_ref, if_pos hK, if_pos hN]
  unfold symR
  rw [hhd, if_neg h40, if_neg h39, h1]
 have hcast : ((at_ + 1 : Nat) : Int) = (at_ : Int) + 1 := by omega
 have HK := fun v : World => rkeywords_any (s := s) (at_ := at_ + 1) (w := v) (by omega) hat
 have HN := fun v : World => rname_any (s := s) (at_ := at_ + 1) (w := v) (by omega) hat
 rw [hK, Nat.add_zero, hcast] at HK
 have HO := fun v : World => roper_any (s := s) (at_ := at_ + 1) (w := v) (by omega) hat
 rw [hN, Nat.add_zero, hcast] at HN
 have hle := operL_le (s.data.toList.drop (at_ + 1))
 rw [dlen] at hle
 obtain ⟨q, hq⟩ : ∃ q, operL (s.data.toList.drop (at_ + 1)) = q := ⟨_, rfl⟩
 rw [hq] at hsym HO hle hO
 have hq2 : at_ + 1 + q ≤ s.size := by omega
 obtain ⟨Z, hZ⟩ : ∃ Z, at_ + 1 + q = Z := ⟨_, rfl⟩
 rw [hZ, hcast] at HO
 have hzb : ((Z : Int) == (at_ : Int) + 1) = false := by rw [beq_eq_false_iff_ne]; omega
 have hxl := ext_size s (at_ + 1) Z (by omega) (by omega)
 have hxw := ext_word s (at_ + 1) q hq2
 rw [hZ] at hxw
 obtain ⟨x, hx⟩ : ∃ x, s.extract (at_ + 1) Z = x := ⟨_, rfl⟩
 rw [hx] at hxl hxw
 have hz1 : (at_ : Int) + 1 ≤ (Z : Int) := by omega
 have hz2 : (Z : Int) ≤ (s.size : Int) := by omega
 have hz3 : at_ + 1 ≤ Z := by omega
 have hz4 : Z ≤ s.size := by omega
 have h5 : ((at_ : Int) + 1).toNat = at_ + 1 := by omega
 have HXW := Lib.hid hxw
 rw [if_neg hO] at hsym
 have HK := Lib.hid HK
 have HN := Lib.hid HN
 have HO := Lib.hid HO
 have hs1 : IntKind.i64.wrap ((at_ : Int) + 1) = (at_ : Int) + 1 := IntWalk.i64_in _ (by omega)
 have h2 : (at_ : Int) + 1 < (s.size : Int) := by omega
 have h4 : (0 : Int) ≤ (at_ : Int) + 1 := by omega
 have n40 : ((s[at_ + 1].toNat : Int) == 40) = false := bne_u8 _ 40 (by omega) h40
 have n39 : ((s[at_ + 1].toNat : Int) == 39) = false := bne_u8 _ 39 (by omega) h39
 clear h40 h39
 clear hcast hhd hK hN hO hxw hq
 by_cases h64 : 64 < q
 · have h64i : (64 : Int) < (x.size : Int) := by omega
   rw [if_pos h64] at hsym
   rw [hsym]
   clear hsym h64 hxl
   go_enter Tryz.func166, Tryz.ntmps166
   go_wp2_with fail
   refine (HK.out _).mono ?_; rintro e w' ⟨rfl, rfl⟩
   go_wp2_with fail
   refine (HN.out _).mono ?_; rintro e w' ⟨rfl, rfl⟩
   go_wp2_with fail
   refine (HO.out _).mono ?_; rintro e w' ⟨rfl, rfl⟩
   go_wp2_with fail
   refine bodyPost_ret (v := .tuple #[.agg #[.int .i64 0, .string ⟨#[]⟩, .int .i64 0, .int .i64 0], .int .i64 ((at_ : Int)), .int .i64 2]) (by simp [results, Tryz.results166, go_sem]) rfl ?_
   exact nexted_err (((Below.refl _ _).alloc (Nat.le_refl _) _).alloc (by simp) _) (by simp [tokV]) (by omega)
 · have h64i : ¬ (64 : Int) < (x.size : Int) := by omega
   rw [if_neg h64] at hsym
   rw [hsym]
   clear hsym h64 hxl
   go_enter Tryz.func166, Tryz.ntmps166
   go_wp2_with fail
   refine (HK.out _).mono ?_; rintro e w' ⟨rfl, rfl⟩
   go_wp2_with fail
   refine (HN.out _).mono ?_; rintro e w' ⟨rfl, rfl⟩
   go_wp2_with fail
   refine (HO.out _).mono ?_; rintro e w' ⟨rfl, rfl⟩
   go_wp2_with fail
   refine bodyPost_ret (v := .tuple #[.agg #[.int .i64 5, .string x, .int .i64 0, .int .i64 (at_ : Int)], .int .i64 ((Z : Int)), .int .i64 0]) (by simp [results, Tryz.results166, go_sem]) rfl ?_
   exact nexted_ok (((Below.refl _ _).alloc (Nat.le_refl _) _).alloc (by simp) _) (by rw [HXW.out]; simp [tokV]) (by omega)
set_option maxRecDepth 100000 in
set_option maxHeartbeats 3200000 in
theorem rsym_none_in (hs : s.size ≤ 140737488355327) (hlt : at_ + 1 < s.size) (h40 : s[at_ + 1] ≠ 40) (h39 : s[at_ + 1] ≠ 39) (hK : kwL (s.data.toList.drop (at_ + 1)) = 0) (hN : nameL (s.data.toList.drop (at_ + 1)) = 0) (hO : operL (s.data.toList.drop (at_ + 1)) = 0) :
  Calls Tryz.prog 166 #[.string s, .int .i64 (at_ : Int)] w (Nexted at_ (symR (s.data.toList.drop (at_ + 1))) w) := by
 have hhd : hd (s.data.toList.drop (at_ + 1)) 0 = s[at_ + 1] := hd_drop s (at_ + 1) 0 hlt
 have hat : at_ + 1 ≤ s.size := by omega
 have hsym : symR (s.data.toList.drop (at_ + 1)) = if operL (s.data.toList.drop (at_ + 1)) = 0 then .error (0, 3) else if 64 < operL (s.data.toList.drop (at_ + 1)) then .error (0, 2) else .ok (⟨5, (s.data.toList.drop (at_ + 1)).take (operL (s.data.toList.drop (at_ + 1))), 0, 0⟩, operL (s.data.toList.drop (at_ + 1)) + 1) := by
  have h1 : symL (s.data.toList.drop (at_ + 1)) = operL (s.data.toList.drop (at_ + 1)) := by rw [symL_ref, if_pos hK, if_pos hN]
  unfold symR
  rw [hhd, if_neg h40, if_neg h39, h1]
 have hcast : ((at_ + 1 : Nat) : Int) = (at_ : Int) + 1 := by omega
 have HK := fun v : World => rkeywords_any (s := s) (at_ := at_ + 1) (w := v) (by omega) hat
 have HN := fun v : World => rname_any (s := s) (at_ := at_ + 1) (w := v) (by omega) hat
 rw [hK, Nat.add_zero, hcast] at HK
 have HO := fun v : World => roper_any (s := s) (at_ := at_ + 1) (w := v) (by omega) hat
 rw [hN, Nat.add_zero, hcast] at HN
 rw [hO, Nat.add_zero, hcast] at HO
 rw [if_pos hO] at hsym
 have HK := Lib.hid HK
 have HN := Lib.hid HN
 have HO := Lib.hid HO
 have hs1 : IntKind.i64.wrap ((at_ : Int) + 1) = (at_ : Int) + 1 := IntWalk.i64_in _ (by omega)
 have h2 : (at_ : Int) + 1 < (s.size : Int) := by omega
 have h4 : (0 : Int) ≤ (at_ : Int) + 1 := by omega
 have h5 : ((at_ : Int) + 1).toNat = at_ + 1 := by omega
 have n40 : ((s[at_ + 1].toNat : Int) == 40) = false := bne_u8 _ 40 (by omega) h40
 have n39 : ((s[at_ + 1].toNat : Int) == 39) = false := bne_u8 _ 39 (by omega) h39
 clear h40 h39
 clear hcast hhd hK hN hO
 rw [hsym]
 clear hsym
 go_enter Tryz.func166, Tryz.ntmps166
 go_wp2_with fail
 refine (HK.out _).mono ?_; rintro e w' ⟨rfl, rfl⟩
 go_wp2_with fail
 refine (HN.out _).mono ?_; rintro e w' ⟨rfl, rfl⟩
 go_wp2_with fail
 refine (HO.out _).mono ?_; rintro e w' ⟨rfl, rfl⟩
 go_wp2_with fail
 refine bodyPost_ret (v := .tuple #[.agg #[.int .i64 0, .string ⟨#[]⟩, .int .i64 0, .int .i64 0], .int .i64 ((at_ : Int)), .int .i64 3]) (by simp [results, Tryz.results166, go_sem]) rfl ?_
 exact nexted_err (((Below.refl _ _).alloc (Nat.le_refl _) _).alloc (by simp) _) (by simp [tokV]) (by omega)
set_option maxRecDepth 100000 in
set_option maxHeartbeats 3200000 in
theorem rsym_none_out (hs : s.size ≤ 140737488355327) (hge : at_ + 1 = s.size) (hK : kwL (s.data.toList.drop (at_ + 1)) = 0) (hN : nameL (s.data.toList.drop (at_ + 1)) = 0) (hO : operL (s.data.toList.drop (at_ + 1)) = 0) :
  Calls Tryz.prog 166 #[.string s, .int .i64 (at_ : Int)] w (Nexted at_ (symR (s.data.toList.drop (at_ + 1))) w) := by
 have hhd : hd (s.data.toList.drop (at_ + 1)) 0 = 0 := hd_past s (at_ + 1) 0 (by omega)
 have hat : at_ + 1 ≤ s.size := by omega
 have hsym : symR (s.data.toList.drop (at_ + 1)) = if operL (s.data.toList.drop (at_ + 1)) = 0 then .error (0, 3) else if 64 < operL (s.data.toList.drop (at_ + 1)) then .error (0, 2) else .ok (⟨5, (s.data.toList.drop (at_ + 1)).take (operL (s.data.toList.drop (at_ + 1))), 0, 0⟩, operL (s.data.toList.drop (at_ + 1)) + 1) := by
  have h1 : symL (s.data.toList.drop (at_ + 1)) = operL (s.data.toList.drop (at_ + 1)) := by rw [symL_ref, if_pos hK, if_pos hN]
  unfold symR
  rw [hhd, if_neg (by decide), if_neg (by decide), h1]
 have hcast : ((at_ + 1 : Nat) : Int) = (at_ : Int) + 1 := by omega
 have HK := fun v : World => rkeywords_any (s := s) (at_ := at_ + 1) (w := v) (by omega) hat
 have HN := fun v : World => rname_any (s := s) (at_ := at_ + 1) (w := v) (by omega) hat
 rw [hK, Nat.add_zero, hcast] at HK
 have HO := fun v : World => roper_any (s := s) (at_ := at_ + 1) (w := v) (by omega) hat
 rw [hN, Nat.add_zero, hcast] at HN
 rw [hO, Nat.add_zero, hcast] at HO
 rw [if_pos hO] at hsym
 have HK := Lib.hid HK
 have HN := Lib.hid HN
 have HO := Lib.hid HO
 have hs1 : IntKind.i64.wrap ((at_ : Int) + 1) = (at_ : Int) + 1 := IntWalk.i64_in _ (by omega)
 have h2 : ¬ (at_ : Int) + 1 < (s.size : Int) := by omega
 clear hcast hhd hK hN hO
 rw [hsym]
 clear hsym
 go_enter Tryz.func166, Tryz.ntmps166
 go_wp2_with fail
 refine (HK.out _).mono ?_; rintro e w' ⟨rfl, rfl⟩
 go_wp2_with fail
 refine (HN.out _).mono ?_; rintro e w' ⟨rfl, rfl⟩
 go_wp2_with fail
 refine (HO.out _).mono ?_; rintro e w' ⟨rfl, rfl⟩
 go_wp2_with fail
 refine bodyPost_ret (v := .tuple #[.agg #[.int .i64 0, .string ⟨#[]⟩, .int .i64 0, .int .i64 0], .int .i64 ((at_ : Int)), .int .i64 3]) (by simp [results, Tryz.results166, go_sem]) rfl ?_
 exact nexted_err (((Below.refl _ _).alloc (Nat.le_refl _) _).alloc (by simp) _) (by simp [tokV]) (by omega)
theorem rsym_any (hs : s.size ≤ 140737488355327) (hat : at_ < s.size) :
  Calls Tryz.prog 166 #[.string s, .int .i64 (at_ : Int)] w (Nexted at_ (symR (s.data.toList.drop (at_ + 1))) w) := by
 rcases Nat.lt_or_ge (at_ + 1) s.size with hlt | hge
 · by_cases h40 : s[at_ + 1] = 40
   · exact rsym_paren hs hlt h40
   by_cases h39 : s[at_ + 1] = 39
   · exact rsym_quote hs hlt h39
   by_cases hK : kwL (s.data.toList.drop (at_ + 1)) = 0
   · by_cases hN : nameL (s.data.toList.drop (at_ + 1)) = 0
     · by_cases hO : operL (s.data.toList.drop (at_ + 1)) = 0
       · exact rsym_none_in hs hlt h40 h39 hK hN hO
       · exact rsym_oper_in hs hlt h40 h39 hK hN hO
     · exact rsym_name_in hs hlt h40 h39 hK hN
   · exact rsym_kw_in hs hlt h40 h39 hK
 · have hnil : s.data.toList.drop (at_ + 1) = [] := List.drop_eq_nil_of_le (show s.data.toList.length ≤ at_ + 1 from hge)
   exact rsym_none_out hs (by omega) (by rw [hnil]; rfl) (by rw [hnil]; rfl) (by rw [hnil]; rfl)
end Lx
end Go.Proofs.YtfbhokdcnjekiaaGreatDoor
namespace Go.Proofs.YtfbhokdcnjekiaaGreatDoor
open Go.RowKit
namespace Lx
open Sm
theorem ret2 {a a' b b' : Value} (h : a = a') (h' : b = b') : Ending.returned (.tuple #[a, b]) = .returned (.tuple #[a', b']) := by rw [h, h']
/-- What the reference keeps of a value: itself, or that it is beyond. -/
def Sat (m V : Nat) : Prop := (m = V ∧ V ≤ 4611686018427387919) ∨ (m = 9223372036854775807 ∧ 4611686018427387904 < V)
theorem Sat.over {m V : Nat} (c : Nat) (h : Sat m V) (hm : 461168601842738791 < m) : Sat 9223372036854775807 (V * 10 + c) := by
 unfold Sat at *; omega
theorem Sat.next {m V : Nat} (c : Nat) (hc : c ≤ 9) (h : Sat m V) (hm : m ≤ 461168601842738791) : Sat (10 * m + c) (V * 10 + c) := by
 unfold Sat at *; omega
theorem take_step (l : List UInt8) (a k : Nat) (ha : a ≤ k) (hk : k < l.length) : (l.drop a).take (k + 1 - a) = (l.drop a).take (k - a) ++ [l[k]] := by
 rw [show k + 1 - a = (k - a) + 1 by omega, List.take_succ_eq_append_getElem (by simp; omega)]
 congr 2
 rw [List.getElem_drop]
 congr 1; omega
theorem all_take (l : List UInt8) (a k : Nat) (ha : a ≤ k) (hk : k < l.length) (h : ((l.drop a).take (k - a)).all isd = true) (hc : isd l[k] = true) : ((l.drop a).take (k + 1 - a)).all isd = true := by
 rw [take_step l a k ha hk, List.all_append, h]; simp [hc]
end Lx
end Go.Proofs.YtfbhokdcnjekiaaGreatDoor
