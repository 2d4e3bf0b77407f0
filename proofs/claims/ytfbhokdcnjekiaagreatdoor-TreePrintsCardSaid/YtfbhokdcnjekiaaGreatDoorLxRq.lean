/- The reference's lexer: Quote. · The reference's Text: a number's digits, one before the other (as XSmText has it). · The reference's lexer, Spell: symbols alone (out of XLxRS1, XLxRS2). -/
import Derived.Test.YtfbhokdcnjekiaaGreatDoorLxRM1
import Derived.Test.YtfbhokdcnjekiaaGreatDoorLxE3
import Derived.Test.YtfbhokdcnjekiaaGreatDoorLxRM2
import Derived.Test.YtfbhokdcnjekiaaGreatDoorLxSp
set_option linter.unusedVariables false
namespace Go.Proofs.YtfbhokdcnjekiaaGreatDoor
open Go.RowKit
namespace Lx
variable {s : ByteArray} {w : World}
theorem esc_snoc (c : UInt8) : ∀ l : Bytes, esc (l ++ [c]) = esc l ++ (if c = 39 then [39, 39] else [c])
  | [] => by by_cases h : c = 39 <;> simp [esc, h]
  | d :: t => by
    have ih := esc_snoc c t
    by_cases h : d = 39
    · simp only [List.cons_append, esc, if_pos h, ih]
    · simp only [List.cons_append, esc, if_neg h, ih]
theorem esc_take (s : ByteArray) (k : Nat) (h : k < s.size) : esc (s.data.toList.take (k + 1)) = esc (s.data.toList.take k) ++ (if s[k] = 39 then [39, 39] else [s[k]]) := by
  have hk : k < s.data.toList.length := h
  have hg : s.data.toList[k] = s[k] := rfl
  rw [List.take_succ_eq_append_getElem hk, esc_snoc, hg]
set_option maxRecDepth 100000 in
set_option maxHeartbeats 3200000 in
theorem rquote_any (hs : s.size ≤ 35184372088832) :
    Calls Tryz.prog 117 #[.string s] w (Back (.string ⟨(quoteL s.data.toList).toArray⟩) w) := by
  obtain ⟨i0, hi', hz0, hz1, hz2⟩ := info_parts (show (Tryz.prog.info? U8).map (fun i => (i.zero, i.size, i.bytes)) = some (some (.int .u8 0), 1, 1) by kernel_rfl)
  have t37 : Tryz.prog.underlying 68 = some (.slice U8) := by kernel_rfl
  have hlit := World.ownsRow_lit (base := w.heap.size) (e := U8) (size := 1) w #[.int .u8 39] 1 (Nat.le_refl _) (by unfold maxLen; omega) rfl
  have HL := Lib.hid hlit
  clear hlit
  go_enter Tryz.func117, Tryz.ntmps117
  go_wp2
  go_loopw [3, 4] (fun v y wr => ∃ (i : Nat) (pre : Bytes), y = .int .i64 (i : Int) ∧ i ≤ s.size ∧ pre.length ≤ 2 * i + 1 ∧ Hid (39 :: esc (s.data.toList.take i) = pre) ∧ OwnB w.heap.size wr v pre ∧ Below w.heap.size w wr) (fun _ y _ => s.size - (intOf y).toNat)
  case atStart => exact ⟨0, [39], vint (by omega), Nat.zero_le _, by simp, Lib.hid (by simp [esc]), HL.out, (Below.refl _ _).alloc (Nat.le_refl _) _⟩
  case round =>
    obtain ⟨i, pre, rfl, hi2, hpre, HI, hown, hbel⟩ := hrel
    have hkw : IntKind.i64.wrap ((i : Int) + 1) = (i : Int) + 1 := IntWalk.i64_in _ (by omega)
    by_cases hlt : i < s.size
    · have hki : (i : Int) < (s.size : Int) := by omega
      have het := esc_take s i hlt
      by_cases hc : s[i] = 39
      · have hcb : ((s[i].toNat : Int) == 39) = true := by rw [hc]; rfl
        rw [if_pos hc] at het
        have HN : Hid (39 :: esc (s.data.toList.take (i + 1)) = (pre ++ [39]) ++ [39]) := Lib.hid (by rw [← HI.out, het]; simp)
        obtain ⟨c, hcc⟩ : ∃ c, s[i] = c := ⟨_, rfl⟩
        have hc39 : c = 39 := by rw [← hcc]; exact hc
        rw [hcc] at hcb
        clear hc het
        go_wp2_with (first | (at_builtin; refine wpList_append_own _ rfl _ _ 68 rfl w.heap.size U8 i0 (.int .u8 0) 1 1 t37 hi' hz0 hz1 hz2 rfl (by decide) _ _ _ rfl (World.ownsRow.alloc hown _) ⟨wr.heap.size, 0, none⟩ 1 1 [.int .u8 39] rfl rfl (cells1 wr U8 _) (by intro u hu; simp at hu; subst hu; rfl) (by unfold maxLen; omega) (by omega) (by have := hbel.size; simp; omega) ?_; intro v' w5 hown5 hgrow5 _; have ho5 := Lib.hid (ownB_snoc (c := 39) hown5); have hb5 := (hbel.alloc hbel.size _).grown hgrow5 (by have := hbel.size; simp; omega) (fun k hk => (World.ownsRow.lt hown k hk).1); clear hown5 hgrow5) | (at_builtin; refine wpList_append_own _ rfl _ _ 68 rfl w.heap.size U8 i0 (.int .u8 0) 1 1 t37 hi' hz0 hz1 hz2 rfl (by decide) _ _ _ rfl (World.ownsRow.alloc ho5.out _) ⟨w5.heap.size, 0, none⟩ 1 1 [.int .u8 39] rfl rfl (cells1 w5 U8 _) (by intro u hu; simp at hu; subst hu; rfl) (by simp; unfold maxLen; omega) (by simp; omega) (by have := hb5.size; simp; omega) ?_; intro v6 w6 hown5 hgrow5 _; have ho6 := Lib.hid (ownB_snoc (c := 39) hown5); have hb6 := (hb5.alloc hb5.size _).grown hgrow5 (by have := hb5.size; simp; omega) (fun k hk => (World.ownsRow.lt ho5.out k hk).1); clear hown5 hgrow5))
        go_wp2_with fail
        exact ⟨⟨i + 1, (pre ++ [39]) ++ [39], vint (by omega), by omega, by simp; omega, HN, ho6.out, hb6⟩, by simp only [intOf]; omega⟩
      · have hcb : ((s[i].toNat : Int) == 39) = false := bne_u8 _ 39 (by omega) hc
        rw [if_neg hc] at het
        have HN : Hid (39 :: esc (s.data.toList.take (i + 1)) = pre ++ [s[i]]) := Lib.hid (by rw [← HI.out, het]; simp)
        obtain ⟨c, hcc⟩ : ∃ c, s[i] = c := ⟨_, rfl⟩
        rw [hcc] at hcb HN
        clear hc het
        go_wp2_with (at_builtin; refine wpList_append_own _ rfl _ _ 68 rfl w.heap.size U8 i0 (.int .u8 0) 1 1 t37 hi' hz0 hz1 hz2 rfl (by decide) _ _ _ rfl (World.ownsRow.alloc hown _) ⟨wr.heap.size, 0, none⟩ 1 1 [.int .u8 (c.toNat : Int)] rfl rfl (cells1 wr U8 _) (by intro u hu; simp at hu; subst hu; rfl) (by unfold maxLen; omega) (by omega) (by have := hbel.size; simp; omega) ?_; intro v' w5 hown5 hgrow5 _; have ho5 := Lib.hid (ownB_snoc (c := c) hown5); have hb5 := (hbel.alloc hbel.size _).grown hgrow5 (by have := hbel.size; simp; omega) (fun k hk => (World.ownsRow.lt hown k hk).1); clear hown5 hgrow5)
        go_wp2_with fail
        exact ⟨⟨i + 1, pre ++ [c], vint (by omega), by omega, by simp; omega, HN, ho5.out, hb5⟩, by simp only [intOf]; omega⟩
    · have hki : ¬ (i : Int) < (s.size : Int) := by omega
      have htk : s.data.toList.take i = s.data.toList := List.take_of_length_le (show s.data.toList.length ≤ i by have : s.data.toList.length = s.size := rfl; omega)
      have HQ : Hid (quoteL s.data.toList = pre ++ [39]) := Lib.hid (by rw [← HI.out, htk]; rfl)
      clear htk HI
      go_wp2_with (at_builtin; refine wpList_append_own _ rfl _ _ 68 rfl w.heap.size U8 i0 (.int .u8 0) 1 1 t37 hi' hz0 hz1 hz2 rfl (by decide) _ _ _ rfl (World.ownsRow.alloc hown _) ⟨wr.heap.size, 0, none⟩ 1 1 [.int .u8 39] rfl rfl (cells1 wr U8 _) (by intro u hu; simp at hu; subst hu; rfl) (by unfold maxLen; omega) (by omega) (by have := hbel.size; simp; omega) ?_; intro v' w5 hown5 hgrow5 _; have ho5 := Lib.hid (ownB_snoc (c := 39) hown5); have hb5 := (hbel.alloc hbel.size _).grown hgrow5 (by have := hbel.size; simp; omega) (fun k hk => (World.ownsRow.lt hown k hk).1); have hcv := ownB_conv ho5.out; clear hown5 hgrow5)
      go_wp2_with fail
      go_ret
      rw [HQ.out]
      exact ⟨rfl, hb5⟩
end Lx
end Go.Proofs.YtfbhokdcnjekiaaGreatDoor
namespace Go.Proofs.YtfbhokdcnjekiaaGreatDoor
open Go.RowKit
namespace Lx.Rt
open Sm
set_option maxHeartbeats 1000000 in
theorem amount64 (x : Int) (w : World) (x1 : -9223372036854775808 ≤ x) (x2 : x ≤ 9223372036854775807) :
    Calls Tryz.prog 85 #[.int .i64 x] w (Done (.int .u64 (x.natAbs : Int)) w) := by
  by_cases h : x < 0
  · go_enter Tryz.func85, Tryz.ntmps85
    go_wp2
    go_ret
    exact ⟨ret1 (vint (by simp only [wrap_u64_eq]; omega)), rfl⟩
  · go_enter Tryz.func85, Tryz.ntmps85
    go_wp2
    go_ret
    exact ⟨ret1 (vint (by omega)), rfl⟩
theorem dec_len (n : Nat) : ∀ u, u < 10 ^ (n + 1) → (Lib.decDigits u).length ≤ n + 1 := by
  induction n with
  | zero => intro u h; rw [Lib.decDigits, dif_pos (by omega)]; simp
  | succ n ih =>
    intro u h
    rw [Lib.decDigits]
    split
    · simp
    · have := ih (u / 10) (by rw [Nat.pow_succ] at h; omega)
      simp; omega
theorem dec_len64 (u : Nat) (h : u ≤ 9223372036854775808) : (Lib.decDigits u).length ≤ 20 := dec_len 19 u (by
  have : (10 : Nat) ^ 20 = 100000000000000000000 := by decide
  rw [this]; omega)
/-- One byte in a new block, as a string. -/
theorem conv_one (w : World) (x : Int) : (convert 68 9 (.slice (some ⟨w.heap.size, 0, none⟩) 1 1)).run Tryz.prog (w.alloc (.cells #[.int .u8 x] 5)) = .ok (.string ⟨[UInt8.ofNat x.toNat].toArray⟩) (w.alloc (.cells #[.int .u8 x] 5)) :=
  run_convert_bytes_arg (P := Tryz.prog) (w.alloc (.cells #[.int .u8 x] 5)) 68 5 Tryz.underlying68 Tryz.underlying5 w.heap.size 0 1 1 [x] rfl (fun i hi => by
    obtain rfl : i = 0 := by omega
    simp [go_sem]) 9 Tryz.underlying9
theorem str_app (a b : List UInt8) : (⟨a.toArray⟩ : ByteArray) ++ (⟨b.toArray⟩ : ByteArray) = ⟨(a ++ b).toArray⟩ := ByteArray.mk_append_mk a b
theorem ofd (j : Nat) : UInt8.ofNat (48 + j) = 48 + UInt8.ofNat j := UInt8.ofNat_add 48 j
theorem str_one (c : UInt8) (b : List UInt8) : (⟨#[c]⟩ : ByteArray) ++ (⟨b.toArray⟩ : ByteArray) = ⟨(c :: b).toArray⟩ := str_app [c] b
set_option maxRecDepth 100000 in
set_option maxHeartbeats 2000000 in
theorem rtext_any (n : Int) (w : World) (n1 : -9223372036854775808 ≤ n) (n2 : n ≤ 9223372036854775807) :
    Calls Tryz.prog 50 #[.int .i64 n] w (Back (.string ⟨(Lib.itoa n).toArray⟩) w) := by
  obtain ⟨u, hu⟩ : ∃ u, n.natAbs = u := ⟨_, rfl⟩
  have hu1 : u ≤ 9223372036854775808 := by omega
  have hlen := dec_len64 u hu1
  have HU := Lib.hid hu
  have HL := Lib.hid hlen
  clear hlen
  go_enter Tryz.func50, Tryz.ntmps50
  go_wp2_with (go_at_call 85; go_must (refine (amount64 _ _ n1 n2).mono ?_); rintro e w' ⟨rfl, rfl⟩)
  go_loopw [3, 4] (fun m s wr => ∃ (k : Nat) (sl : List UInt8), k ≤ u ∧ m = .int .u64 (k : Int) ∧ s = .string ⟨sl.toArray⟩ ∧ Lib.decDigits k ++ sl = Lib.decDigits u ∧ Below w.heap.size w wr) (fun m _ _ => (intOf m).toNat)
  case atStart => exact ⟨u, [], Nat.le_refl _, rfl, rfl, by simp, Below.refl _ _⟩
  case round =>
    obtain ⟨k, sl, hk, rfl, rfl, hd, hbw⟩ := hrel
    have hsl : (sl.length : Int) ≤ 8388608 := by
      have h1 : (Lib.decDigits k ++ sl).length ≤ 20 := by rw [hd]; exact HL.out
      rw [List.length_append] at h1; omega
    have HD := Lib.hid hd
    clear hd hu
    have hconv := conv_one wr
    by_cases h10 : 10 ≤ k
    · go_wp2
      go_roundw
      case rel =>
        refine ⟨k / 10, (48 + UInt8.ofNat (k % 10)) :: sl, by omega, by go_num, congrArg Value.string (str_one _ _), ?_, hbw.alloc hbw.size _⟩
        rw [← HD.out, Lib.decDigits.eq_def k, dif_neg (by omega), ofd]; simp
      case measure => simp [intOf]; omega
    · have hdk : Lib.decDigits u = (48 + UInt8.ofNat k) :: sl := by
        rw [← HD.out, Lib.decDigits.eq_def k, dif_pos (by omega), ofd]; rfl
      have HK := Lib.hid hdk
      clear hdk
      by_cases hn : n < 0
      · have hit : Lib.itoa n = 45 :: (48 + UInt8.ofNat k) :: sl := by
          unfold Lib.itoa; rw [if_pos hn, HU.out, HK.out]
        have HI := Lib.hid hit
        clear hit
        go_wp2
        go_ret
        exact ⟨ret1 (congrArg Value.string (by rw [HI.out, str_one, str_one])), hbw.alloc hbw.size _⟩
      · have hit : Lib.itoa n = (48 + UInt8.ofNat k) :: sl := by
          have e : n.toNat = u := by have := HU.out; omega
          unfold Lib.itoa; rw [if_neg hn, e, HK.out]
        have HI := Lib.hid hit
        clear hit
        go_wp2
        go_ret
        exact ⟨ret1 (congrArg Value.string (by rw [HI.out, str_one])), hbw.alloc hbw.size _⟩
end Lx.Rt
end Go.Proofs.YtfbhokdcnjekiaaGreatDoor
namespace Go.Proofs.YtfbhokdcnjekiaaGreatDoor
open Go.RowKit
namespace Lx
variable {k n a : Int} {wd : ByteArray} {w : World}
/-- What the reference's Spell hands back. -/
def RSpelt (S : Bytes) (B : Bool) (w : World) (e : Ending) (w' : World) : Prop := Below w.heap.size w w' ∧ e = .returned (.tuple #[.string ⟨S.toArray⟩, .bool B])
theorem rnext_35 {s : ByteArray} (hs : s.size ≤ 140737488355327) (h0 : 0 < s.size) (hc : s[0] = 35) :
    Calls Tryz.prog 153 #[.string s, .int .i64 0] w (Nexted 0 (nextR s.data.toList) w) := by
  have e : s.data.toList = 35 :: s.data.toList.drop 1 := by
    have := List.drop_eq_getElem_cons (l := s.data.toList) (i := 0) h0
    rw [List.drop_zero] at this
    have h2 : s.data.toList[0] = s[0] := rfl
    rw [h2, hc] at this
    exact this
  have hk : sk none 0 s.data.toList = .ok 0 := by rw [e]; simp only [sk]; rw [if_neg (by decide), if_neg (by decide)]
  have h := rnext_hash (w := w) hs (a := 0) (Nat.zero_le _) (p := 0) (by rw [List.drop_zero]; exact hk) (Nat.zero_le _) h0 hc
  rw [List.drop_zero] at h
  unfold nextR
  rw [hk]
  simp only [List.drop_zero]
  cases hE : tokR s.data.toList with
  | error x =>
    obtain ⟨q, n⟩ := x
    rw [hE] at h
    refine h.mono fun e w' hh => ?_
    obtain ⟨h1, h2⟩ := hh
    exact ⟨h1, by rw [h2]; simp⟩
  | ok y =>
    obtain ⟨t, n⟩ := y
    rw [hE] at h
    refine h.mono fun e w' hh => ?_
    obtain ⟨h1, h2⟩ := hh
    exact ⟨h1, by rw [h2]; simp [tokV]⟩
set_option maxRecDepth 100000 in
set_option maxHeartbeats 3200000 in
theorem rspell_sym (hk : -9223372036854775808 ≤ k ∧ k ≤ 9223372036854775807) (h0 : -9223372036854775808 ≤ n) (h1 : n ≤ 9223372036854775807) (hs : wd.size ≤ 35184372088832) (h : k = 5 ∧ ¬ arityP wd.data.toList < 0) :
    Calls Tryz.prog 137 #[.agg #[.int .i64 k, .string wd, .int .i64 n, .int .i64 a]] w (RSpelt (spelledL k wd.data.toList n) (spellB (spelledL k wd.data.toList n) k wd.data.toList n) w) := by
  have hlen := sp_len k n wd.data.toList h0 h1
  have hwl : wd.data.toList.length = wd.size := rfl
  have hSp : spelledL k wd.data.toList n = 35 :: wd.data.toList := by unfold spelledL; rw [if_neg (by omega), if_neg (by omega), if_neg (by omega), if_pos h.1, if_neg h.2]
  obtain ⟨S, hS⟩ : ∃ S, spelledL k wd.data.toList n = S := ⟨_, rfl⟩
  rw [hS] at hlen hSp ⊢
  obtain ⟨B, hB⟩ : ∃ B, spellB S k wd.data.toList n = B := ⟨_, rfl⟩
  rw [hB]
  have hBB := hB
  unfold spellB at hBB
  obtain ⟨V, hSS⟩ : ∃ V : ByteArray, (⟨S.toArray⟩ : ByteArray) = V := ⟨_, rfl⟩
  have hsz : V.size = S.length := by rw [← hSS]; simp [ByteArray.size]
  have hSl : V.data.toList = S := by rw [← hSS]
  have hVS : V.data.toList = S := hSl
  have hV0 : 0 < V.size := by rw [hsz, hSp]; simp
  have hV35 : V[0] = 35 := by
    have := hd_drop V 0 0 (by omega)
    rw [List.drop_zero, hVS, hSp] at this
    simpa [hd] using this.symm
  have hN := fun v : World => rnext_35 (s := V) (w := v) (by omega) hV0 hV35
  clear hVS hV35
  rw [hSl] at hN
  obtain ⟨x, hx⟩ : ∃ x, nextR S = x := ⟨_, rfl⟩
  have herr := fun p n => nextR_err S p n
  rw [hx] at hN hBB herr
  have hVd : (⟨#[35]⟩ : ByteArray) ++ wd = V := by rw [← hSS, hSp]; exact cat2 35 wd
  have hC := fun v : World => rarity_any (s := wd) (w := v) (by omega)
  obtain ⟨h, ha⟩ := h
  obtain ⟨A, hA⟩ : ∃ A, arityP wd.data.toList = A := ⟨_, rfl⟩
  rw [hA] at hC ha
  have HC := Lib.hid hC
  have hwi : (wd.size : Int) ≤ 35184372088832 := by omega
  clear hC hA
  have HN := Lib.hid hN
  have HBB := Lib.hid hBB
  have HSS := Lib.hid hSS
  have HSZ := Lib.hid hsz
  have n1 : (k == 1) = false := by rw [beq_eq_false_iff_ne]; omega
  have n2 : (k == 2) = false := by rw [beq_eq_false_iff_ne]; omega
  have n3 : (k == 3) = false := by rw [beq_eq_false_iff_ne]; omega
  have n4 : (k == 4) = false := by rw [beq_eq_false_iff_ne]; omega
  have n5 : (k == 5) = true := by rw [h]; rfl
  have n6 : (k == 6) = false := by rw [beq_eq_false_iff_ne]; omega
  have n7 : (k == 7) = false := by rw [beq_eq_false_iff_ne]; omega
  have n8 : (k == 8) = false := by rw [beq_eq_false_iff_ne]; omega
  have n9 : (k == 9) = false := by rw [beq_eq_false_iff_ne]; omega
  have n10 : (k == 10) = false := by rw [beq_eq_false_iff_ne]; omega
  have n11 : (k == 11) = false := by rw [beq_eq_false_iff_ne]; omega
  have n12 : (k == 12) = false := by rw [beq_eq_false_iff_ne]; omega
  have n13 : (k == 13) = false := by rw [beq_eq_false_iff_ne]; omega
  have n14 : (k == 14) = false := by rw [beq_eq_false_iff_ne]; omega
  have n15 : (k == 15) = false := by rw [beq_eq_false_iff_ne]; omega
  have n16 : (k == 16) = false := by rw [beq_eq_false_iff_ne]; omega
  clear hN hBB hB hx hSl hS hSS hSp hwl hlen hsz h
  cases x with
  | error y =>
    obtain ⟨p, m⟩ := y
    have hm0 := herr p m rfl
    have hmb : (m == 0) = false := by simpa using hm0
    have hBf : B = false := HBB.out.symm
    subst hBf
    clear herr hm0
    go_enter Tryz.func137, Tryz.ntmps137
    go_wp2_with fail
    refine (HC.out _).mono ?_; rintro e w2 ⟨rfl, rfl⟩
    go_wp2_with fail
    refine (HN.out _).mono ?_; rintro e w4 ⟨hb4, rfl⟩
    have hT : Tk R9 w.heap.size k wd n 0 w4 := (hb4.block _ (by simp)).trans (Tk.made w)
    have hz4 : w.heap.size < w4.heap.size := Nat.lt_of_lt_of_le (by simp) hb4.size
    have hb4 : Below w.heap.size w w4 := ((Below.refl _ _).alloc (Nat.le_refl _) _).trans (hb4.mono (by simp))
    have g0 := hT.c0
    have g1 := hT.c1
    have g2 := hT.c2
    have g3 := hT.c3
    have gf := hT.fz
    rw [show tokV 0 ⟨0, [], 0, 0⟩ = .agg #[.int .i64 0, .string ⟨#[]⟩, .int .i64 0, .int .i64 0] from rfl]
    go_wp2_with fail
    go_ret2
    exact ⟨hb4.alloc (Nat.le_of_lt hz4) _, by rw [HSS.out]; rfl⟩
  | ok y =>
    obtain ⟨t, m⟩ := y
    clear herr
    obtain ⟨kd, wd', nn, aa, hV, hq⟩ : ∃ (kd : Int) (wd' : ByteArray) (nn aa : Int), tokV 0 t = .agg #[.int .i64 kd, .string wd', .int .i64 nn, .int .i64 aa] ∧ (kd = (t.kind : Int) ∧ wd' = ⟨t.word.toArray⟩ ∧ nn = t.num ∧ aa = ((0 + t.at_ : Nat) : Int)) := ⟨_, _, _, _, rfl, rfl, rfl, rfl, rfl⟩
    have HQ := Lib.hid hq
    have HVV := Lib.hid hV
    clear hq hV
    by_cases hP : kd = k ∧ wd' = wd ∧ nn = n ∧ aa = 0 ∧ (m : Int) = (V.size : Int)
    · have hBt : B = true := by
        rw [← HBB.out]
        obtain ⟨q1, q2, q3, q4⟩ := HQ.out
        obtain ⟨p1, p2, p3, p4, p5⟩ := hP
        have e1 : (t.kind : Int) = k := by rw [← q1]; exact p1
        have e2 : t.word = wd.data.toList := by rw [← p2, q2]
        have e3 : t.num = n := by rw [← q3]; exact p3
        have e4 : t.at_ = 0 := by omega
        have e5 : m = S.length := by have := HSZ.out; omega
        simp [e1, e2, e3, e4, e5]
      subst hBt
      obtain ⟨p1, p2, p3, rfl, p5⟩ := hP
      have p1 : (kd == k) = true := by rw [p1]; simp
      have p2 : (wd'.toList == wd.toList) = true := by rw [p2]; simp
      have p3 : (nn == n) = true := by rw [p3]; simp
      have p5b : ((m : Int) == (V.size : Int)) = true := by rw [p5]; simp
      clear p5
      go_enter Tryz.func137, Tryz.ntmps137
      go_wp2_with fail
      refine (HC.out _).mono ?_; rintro e w2 ⟨rfl, rfl⟩
      go_wp2_with fail
      refine (HN.out _).mono ?_; rintro e w4 ⟨hb4, rfl⟩
      have hT : Tk R9 w.heap.size k wd n 0 w4 := (hb4.block _ (by simp)).trans (Tk.made w)
      have hz4 : w.heap.size < w4.heap.size := Nat.lt_of_lt_of_le (by simp) hb4.size
      have hb4 : Below w.heap.size w w4 := ((Below.refl _ _).alloc (Nat.le_refl _) _).trans (hb4.mono (by simp))
      have g0 := hT.c0
      have g1 := hT.c1
      have g2 := hT.c2
      have g3 := hT.c3
      have gf := hT.fz
      rw [HVV.out]
      go_wp2_with fail
      go_ret2
      exact ⟨hb4.alloc (Nat.le_of_lt hz4) _, by rw [HSS.out]; rfl⟩
    · have hBf : B = false := by
        cases B
        · rfl
        · exfalso
          have hb := HBB.out
          simp only [Bool.and_eq_true, decide_eq_true_eq] at hb
          obtain ⟨⟨⟨⟨b1, b2⟩, b3⟩, b4⟩, b5⟩ := hb
          obtain ⟨q1, q2, q3, q4⟩ := HQ.out
          refine hP ⟨q1.trans b1, ?_, q3.trans b3, by omega, by have := HSZ.out; omega⟩
          rw [q2, b2]
      subst hBf
      have HNP := Lib.hid hP
      clear hP
      go_enter Tryz.func137, Tryz.ntmps137
      go_wp2_with fail
      refine (HC.out _).mono ?_; rintro e w2 ⟨rfl, rfl⟩
      go_wp2_with fail
      refine (HN.out _).mono ?_; rintro e w4 ⟨hb4, rfl⟩
      have hT : Tk R9 w.heap.size k wd n 0 w4 := (hb4.block _ (by simp)).trans (Tk.made w)
      have hz4 : w.heap.size < w4.heap.size := Nat.lt_of_lt_of_le (by simp) hb4.size
      have hb4 : Below w.heap.size w w4 := ((Below.refl _ _).alloc (Nat.le_refl _) _).trans (hb4.mono (by simp))
      have g0 := hT.c0
      have g1 := hT.c1
      have g2 := hT.c2
      have g3 := hT.c3
      have gf := hT.fz
      rw [HVV.out]
      go_wp2_with fail
      all_goals first
        | (go_ret2; exact ⟨hb4.alloc (Nat.le_of_lt hz4) _, by rw [HSS.out]; rfl⟩)
        | (have hF : ((m : Int) == (V.size : Int)) = false := by
            rw [beq_eq_false_iff_ne]; intro hme
            exact HNP.out ⟨by assumption, bytes_inj (by assumption), by assumption, by assumption, hme⟩
           go_ret2
           exact ⟨hb4.alloc (Nat.le_of_lt hz4) _, by rw [HSS.out]; exact ret2 rfl (congrArg Value.bool hF)⟩)
set_option maxRecDepth 100000 in
set_option maxHeartbeats 3200000 in
theorem rspell_symq (hk : -9223372036854775808 ≤ k ∧ k ≤ 9223372036854775807) (h0 : -9223372036854775808 ≤ n) (h1 : n ≤ 9223372036854775807) (hs : wd.size ≤ 35184372088832) (h : k = 5 ∧ arityP wd.data.toList < 0) :
    Calls Tryz.prog 137 #[.agg #[.int .i64 k, .string wd, .int .i64 n, .int .i64 a]] w (RSpelt (spelledL k wd.data.toList n) (spellB (spelledL k wd.data.toList n) k wd.data.toList n) w) := by
  have hlen := sp_len k n wd.data.toList h0 h1
  have hwl : wd.data.toList.length = wd.size := rfl
  have hSp : spelledL k wd.data.toList n = 35 :: quoteL wd.data.toList := by unfold spelledL; rw [if_neg (by omega), if_neg (by omega), if_neg (by omega), if_pos h.1, if_pos h.2]
  obtain ⟨S, hS⟩ : ∃ S, spelledL k wd.data.toList n = S := ⟨_, rfl⟩
  rw [hS] at hlen hSp ⊢
  obtain ⟨B, hB⟩ : ∃ B, spellB S k wd.data.toList n = B := ⟨_, rfl⟩
  rw [hB]
  have hBB := hB
  unfold spellB at hBB
  obtain ⟨V, hSS⟩ : ∃ V : ByteArray, (⟨S.toArray⟩ : ByteArray) = V := ⟨_, rfl⟩
  have hsz : V.size = S.length := by rw [← hSS]; simp [ByteArray.size]
  have hSl : V.data.toList = S := by rw [← hSS]
  have hVS : V.data.toList = S := hSl
  have hV0 : 0 < V.size := by rw [hsz, hSp]; simp
  have hV35 : V[0] = 35 := by
    have := hd_drop V 0 0 (by omega)
    rw [List.drop_zero, hVS, hSp] at this
    simpa [hd] using this.symm
  have hN := fun v : World => rnext_35 (s := V) (w := v) (by omega) hV0 hV35
  clear hVS hV35
  rw [hSl] at hN
  obtain ⟨x, hx⟩ : ∃ x, nextR S = x := ⟨_, rfl⟩
  have herr := fun p n => nextR_err S p n
  rw [hx] at hN hBB herr
  have hVd : (⟨#[35]⟩ : ByteArray) ++ (⟨(quoteL wd.data.toList).toArray⟩ : ByteArray) = V := by rw [← hSS, hSp]; exact cat2 35 _
  have hC := fun v : World => rarity_any (s := wd) (w := v) (by omega)
  have hC2 := fun v : World => rquote_any (w := v) hs
  obtain ⟨h, ha⟩ := h
  obtain ⟨A, hA⟩ : ∃ A, arityP wd.data.toList = A := ⟨_, rfl⟩
  rw [hA] at hC ha
  have hql : (quoteL wd.data.toList).length ≤ 140737488355327 := by rw [hSp] at hlen; simp at hlen; omega
  obtain ⟨Q, hQ⟩ : ∃ Q : ByteArray, (⟨(quoteL wd.data.toList).toArray⟩ : ByteArray) = Q := ⟨_, rfl⟩
  have hQi : (Q.size : Int) ≤ 140737488355327 := by rw [← hQ]; simp [ByteArray.size]; omega
  rw [hQ] at hC2 hVd
  have HC := Lib.hid hC
  have HC2 := Lib.hid hC2
  have hwi : (wd.size : Int) ≤ 35184372088832 := by omega
  clear hC hA hC2 hQ hql
  have HN := Lib.hid hN
  have HBB := Lib.hid hBB
  have HSS := Lib.hid hSS
  have HSZ := Lib.hid hsz
  have n1 : (k == 1) = false := by rw [beq_eq_false_iff_ne]; omega
  have n2 : (k == 2) = false := by rw [beq_eq_false_iff_ne]; omega
  have n3 : (k == 3) = false := by rw [beq_eq_false_iff_ne]; omega
  have n4 : (k == 4) = false := by rw [beq_eq_false_iff_ne]; omega
  have n5 : (k == 5) = true := by rw [h]; rfl
  have n6 : (k == 6) = false := by rw [beq_eq_false_iff_ne]; omega
  have n7 : (k == 7) = false := by rw [beq_eq_false_iff_ne]; omega
  have n8 : (k == 8) = false := by rw [beq_eq_false_iff_ne]; omega
  have n9 : (k == 9) = false := by rw [beq_eq_false_iff_ne]; omega
  have n10 : (k == 10) = false := by rw [beq_eq_false_iff_ne]; omega
  have n11 : (k == 11) = false := by rw [beq_eq_false_iff_ne]; omega
  have n12 : (k == 12) = false := by rw [beq_eq_false_iff_ne]; omega
  have n13 : (k == 13) = false := by rw [beq_eq_false_iff_ne]; omega
  have n14 : (k == 14) = false := by rw [beq_eq_false_iff_ne]; omega
  have n15 : (k == 15) = false := by rw [beq_eq_false_iff_ne]; omega
  have n16 : (k == 16) = false := by rw [beq_eq_false_iff_ne]; omega
  clear hN hBB hB hx hSl hS hSS hSp hwl hlen hsz h
  cases x with
  | error y =>
    obtain ⟨p, m⟩ := y
    have hm0 := herr p m rfl
    have hmb : (m == 0) = false := by simpa using hm0
    have hBf : B = false := HBB.out.symm
    subst hBf
    clear herr hm0
    go_enter Tryz.func137, Tryz.ntmps137
    go_wp2_with fail
    refine (HC.out _).mono ?_; rintro e w2 ⟨rfl, rfl⟩
    go_wp2_with fail
    refine (HC2.out _).mono ?_; rintro e w2 ⟨rfl, hb2⟩
    have hT2 : Tk R9 w.heap.size k wd n a w2 := (hb2.block _ (by simp)).trans (Tk.made w)
    have q3 := hT2.c3
    have qf := hT2.fz
    clear hT2
    go_wp2_with fail
    refine (HN.out _).mono ?_; rintro e w4 ⟨hb4, rfl⟩
    have hT : Tk R9 w.heap.size k wd n 0 w4 := (hb4.block _ (by have := hb2.size; simp [World.setCell] at this ⊢; omega)).trans (Tk.set3 ((hb2.block _ (by simp)).trans (Tk.made w)) 0)
    have hz4 : w.heap.size < w4.heap.size := Nat.lt_of_lt_of_le (by have := hb2.size; simp [World.setCell] at this ⊢; omega) hb4.size
    have hb4 : Below w.heap.size w w4 := (Below.setCell (p := ⟨w.heap.size, 3, none⟩) (((Below.refl _ _).alloc (Nat.le_refl _) _).trans (hb2.mono (by simp))) (Nat.le_refl _) (.int .i64 0)).trans (hb4.mono (by have := hb2.size; simp [World.setCell] at this ⊢; omega))
    have g0 := hT.c0
    have g1 := hT.c1
    have g2 := hT.c2
    have g3 := hT.c3
    have gf := hT.fz
    rw [show tokV 0 ⟨0, [], 0, 0⟩ = .agg #[.int .i64 0, .string ⟨#[]⟩, .int .i64 0, .int .i64 0] from rfl]
    go_wp2_with fail
    go_ret2
    exact ⟨hb4.alloc (Nat.le_of_lt hz4) _, by rw [HSS.out]; rfl⟩
  | ok y =>
    obtain ⟨t, m⟩ := y
    clear herr
    obtain ⟨kd, wd', nn, aa, hV, hq⟩ : ∃ (kd : Int) (wd' : ByteArray) (nn aa : Int), tokV 0 t = .agg #[.int .i64 kd, .string wd', .int .i64 nn, .int .i64 aa] ∧ (kd = (t.kind : Int) ∧ wd' = ⟨t.word.toArray⟩ ∧ nn = t.num ∧ aa = ((0 + t.at_ : Nat) : Int)) := ⟨_, _, _, _, rfl, rfl, rfl, rfl, rfl⟩
    have HQ := Lib.hid hq
    have HVV := Lib.hid hV
    clear hq hV
    by_cases hP : kd = k ∧ wd' = wd ∧ nn = n ∧ aa = 0 ∧ (m : Int) = (V.size : Int)
    · have hBt : B = true := by
        rw [← HBB.out]
        obtain ⟨q1, q2, q3, q4⟩ := HQ.out
        obtain ⟨p1, p2, p3, p4, p5⟩ := hP
        have e1 : (t.kind : Int) = k := by rw [← q1]; exact p1
        have e2 : t.word = wd.data.toList := by rw [← p2, q2]
        have e3 : t.num = n := by rw [← q3]; exact p3
        have e4 : t.at_ = 0 := by omega
        have e5 : m = S.length := by have := HSZ.out; omega
        simp [e1, e2, e3, e4, e5]
      subst hBt
      obtain ⟨p1, p2, p3, rfl, p5⟩ := hP
      have p1 : (kd == k) = true := by rw [p1]; simp
      have p2 : (wd'.toList == wd.toList) = true := by rw [p2]; simp
      have p3 : (nn == n) = true := by rw [p3]; simp
      have p5b : ((m : Int) == (V.size : Int)) = true := by rw [p5]; simp
      clear p5
      go_enter Tryz.func137, Tryz.ntmps137
      go_wp2_with fail
      refine (HC.out _).mono ?_; rintro e w2 ⟨rfl, rfl⟩
      go_wp2_with fail
      refine (HC2.out _).mono ?_; rintro e w2 ⟨rfl, hb2⟩
      have hT2 : Tk R9 w.heap.size k wd n a w2 := (hb2.block _ (by simp)).trans (Tk.made w)
      have q3 := hT2.c3
      have qf := hT2.fz
      clear hT2
      go_wp2_with fail
      refine (HN.out _).mono ?_; rintro e w4 ⟨hb4, rfl⟩
      have hT : Tk R9 w.heap.size k wd n 0 w4 := (hb4.block _ (by have := hb2.size; simp [World.setCell] at this ⊢; omega)).trans (Tk.set3 ((hb2.block _ (by simp)).trans (Tk.made w)) 0)
      have hz4 : w.heap.size < w4.heap.size := Nat.lt_of_lt_of_le (by have := hb2.size; simp [World.setCell] at this ⊢; omega) hb4.size
      have hb4 : Below w.heap.size w w4 := (Below.setCell (p := ⟨w.heap.size, 3, none⟩) (((Below.refl _ _).alloc (Nat.le_refl _) _).trans (hb2.mono (by simp))) (Nat.le_refl _) (.int .i64 0)).trans (hb4.mono (by have := hb2.size; simp [World.setCell] at this ⊢; omega))
      have g0 := hT.c0
      have g1 := hT.c1
      have g2 := hT.c2
      have g3 := hT.c3
      have gf := hT.fz
      rw [HVV.out]
      go_wp2_with fail
      go_ret2
      exact ⟨hb4.alloc (Nat.le_of_lt hz4) _, by rw [HSS.out]; rfl⟩
    · have hBf : B = false := by
        cases B
        · rfl
        · exfalso
          have hb := HBB.out
          simp only [Bool.and_eq_true, decide_eq_true_eq] at hb
          obtain ⟨⟨⟨⟨b1, b2⟩, b3⟩, b4⟩, b5⟩ := hb
          obtain ⟨q1, q2, q3, q4⟩ := HQ.out
          refine hP ⟨q1.trans b1, ?_, q3.trans b3, by omega, by have := HSZ.out; omega⟩
          rw [q2, b2]
      subst hBf
      have HNP := Lib.hid hP
      clear hP
      go_enter Tryz.func137, Tryz.ntmps137
      go_wp2_with fail
      refine (HC.out _).mono ?_; rintro e w2 ⟨rfl, rfl⟩
      go_wp2_with fail
      refine (HC2.out _).mono ?_; rintro e w2 ⟨rfl, hb2⟩
      have hT2 : Tk R9 w.heap.size k wd n a w2 := (hb2.block _ (by simp)).trans (Tk.made w)
      have q3 := hT2.c3
      have qf := hT2.fz
      clear hT2
      go_wp2_with fail
      refine (HN.out _).mono ?_; rintro e w4 ⟨hb4, rfl⟩
      have hT : Tk R9 w.heap.size k wd n 0 w4 := (hb4.block _ (by have := hb2.size; simp [World.setCell] at this ⊢; omega)).trans (Tk.set3 ((hb2.block _ (by simp)).trans (Tk.made w)) 0)
      have hz4 : w.heap.size < w4.heap.size := Nat.lt_of_lt_of_le (by have := hb2.size; simp [World.setCell] at this ⊢; omega) hb4.size
      have hb4 : Below w.heap.size w w4 := (Below.setCell (p := ⟨w.heap.size, 3, none⟩) (((Below.refl _ _).alloc (Nat.le_refl _) _).trans (hb2.mono (by simp))) (Nat.le_refl _) (.int .i64 0)).trans (hb4.mono (by have := hb2.size; simp [World.setCell] at this ⊢; omega))
      have g0 := hT.c0
      have g1 := hT.c1
      have g2 := hT.c2
      have g3 := hT.c3
      have gf := hT.fz
      rw [HVV.out]
      go_wp2_with fail
      all_goals first
        | (go_ret2; exact ⟨hb4.alloc (Nat.le_of_lt hz4) _, by rw [HSS.out]; rfl⟩)
        | (have hF : ((m : Int) == (V.size : Int)) = false := by
            rw [beq_eq_false_iff_ne]; intro hme
            exact HNP.out ⟨by assumption, bytes_inj (by assumption), by assumption, by assumption, hme⟩
           go_ret2
           exact ⟨hb4.alloc (Nat.le_of_lt hz4) _, by rw [HSS.out]; exact ret2 rfl (congrArg Value.bool hF)⟩)
end Lx
end Go.Proofs.YtfbhokdcnjekiaaGreatDoor
