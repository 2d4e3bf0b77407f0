/- Chapters 08 and 17, the walk, 6: heap's Bytes. -/
import Derived.Test.YtojblndlchcjeaaHpW5
import Derived.Test.YtojblndlchcjeaaHpRow
set_option linter.unusedVariables false
namespace Go.Proofs.Ytojblndlchcjeaa
open Go.RowKit
namespace Hp
open Bs Sm
abbrev U8 : Nat := 5
/-- All bytes of an object, and the error. -/
def bytesL (l : List Ob) (x : Nat) : Bts × Int :=
  match findO l x with
  | none => ([], 13)
  | some o => if o.hd.kind ≠ 2 then ([], 13) else (o.bytes, 0)
/-- Bytes in a slice of one's own, and an error. -/
def ByR (b : Bts) (er : Int) (w : World) (e : Ending) (w' : World) : Prop := ∃ v, e = .returned (.tuple #[v, .int .i64 er]) ∧ w'.ownsRow w.heap.size U8 1 v b.length (b.map byV) ∧ Below w.heap.size w w'
theorem u8_info : ∃ i : TypeInfo, Try.prog.info? U8 = some i ∧ i.zero = some (.int .u8 0) ∧ i.size = 1 ∧ i.bytes = 1 := by
  obtain ⟨i, h, h1, h2, h3⟩ := info_parts (show (Try.prog.info? U8).map (fun i => (i.zero, i.size, i.bytes)) = some (some (.int .u8 0), 1, 1) by kernel_rfl)
  exact ⟨i, h, h1, h2, h3⟩
set_option maxRecDepth 100000 in
set_option maxHeartbeats 1600000 in
theorem bytes_err (B : Bks) (N : Nat) (l : List Ob) (last x : Nat) (w : World) (hm : Mem B N l last w) (hx : x < 18446744073709551616) (he : (bytesL l x).2 ≠ 0) :
    Calls Try.prog 50 #[.pointer (some ⟨B.h, 0, none⟩), .int .u64 (x : Int)] w (Back (.tuple #[.slice none 0 0, .int .i64 13]) w) := by
  cases ho : findO l x with
  | none =>
    have HH := Lib.hid (Head_none B N l last x w hm hx ho)
    unfold hdZ at HH
    clear hm hx he ho
    go_enter Try.func50, Try.ntmps50
    go_wp2_with fail
    refine HH.out.mono ?_; rintro e w1 ⟨rfl, hb1⟩
    have HB := Lib.hid (hb1.trans ((alloc_bel w1 (.cells #[.int .u64 0, .int .i64 0, .int .i64 0, .int .u32 0, .bool false] HDT)).mono hb1.size))
    obtain ⟨W2, hal2⟩ : ∃ W2, w1.alloc (.cells #[.int .u64 0, .int .i64 0, .int .i64 0, .int .u32 0, .bool false] HDT) = W2 := ⟨_, rfl⟩
    rw [hal2] at HB
    have qA : Blk HDT w1.heap.size #[.int .u64 0, .int .i64 0, .int .i64 0, .int .u32 0, .bool false] W2 := by rw [← hal2]; exact Blk.made _
    have QA := Lib.hid qA
    have g0 := qA.c 0 _ rfl
    have g1 := qA.c 1 _ rfl
    have g2 := qA.c 2 _ rfl
    have g3 := qA.c 3 _ rfl
    have g4 := qA.c 4 _ rfl
    have fz := qA.fz
    have HS := Lib.hid (hb1.size)
    clear hb1 qA
    go_wp2_with fail
    go_ret2
    obtain ⟨-, bel1⟩ := blk_set5 QA.out (.int .u64 0) (.int .i64 0) (.int .i64 0) (.int .u32 0) (.bool false)
    exact ⟨rfl, by first | exact HB.out | exact HB.out.trans (bel1 _ HS.out HB.out.size)⟩
  | some o =>
    have HH := Lib.hid (Head_some B N l last x o w hm hx ho)
    have hk : o.hd.kind ≠ 2 := by
      intro h
      apply he
      unfold bytesL
      rw [ho]
      dsimp only
      rw [if_neg (by simp [h])]
    obtain ⟨⟨hc, ks, kz, kx, km⟩, hH⟩ : ∃ h, o.hd = h := ⟨_, rfl⟩
    rw [hH] at HH hk
    have hkb : ((ks : Int) == 2) = false := by simp; exact_mod_cast hk
    have hkb2 : ((ks : Int) != 2) = true := by simp; exact_mod_cast hk
    unfold hdV uV at HH
    dsimp only at HH
    clear hm hx he ho hH hk
    go_enter Try.func50, Try.ntmps50
    go_wp2_with fail
    refine HH.out.mono ?_; rintro e w1 ⟨rfl, hb1⟩
    have HB := Lib.hid (hb1.trans ((alloc_bel w1 (.cells #[.int .u64 (hc : Int), .int .i64 (ks : Int), .int .i64 (kz : Int), .int .u32 (kx : Int), .bool km] HDT)).mono hb1.size))
    clear hb1
    go_wp2_with fail
    go_ret2
    exact ⟨rfl, HB.out⟩
/-- What has been laid so far. -/
def takeZ (b : Bts) (k n : Nat) : Bts := b.take k ++ List.replicate (n - k) 0
theorem takeZ_set {b : Bts} {k : Nat} (hk : k < b.length) : (takeZ b k b.length).set k (b.getD k 0) = takeZ b (k + 1) b.length := by
  unfold takeZ
  have hl : (b.take k).length = k := by rw [List.length_take]; omega
  obtain ⟨m, hm⟩ : ∃ m, b.length - k = m + 1 := ⟨b.length - k - 1, by omega⟩
  rw [List.set_append_right _ _ (by omega), hl, Nat.sub_self, hm, List.replicate_succ, List.set_cons_zero, show b.length - (k + 1) = m by omega, List.take_succ_eq_append_getElem hk, List.append_assoc, List.getD_eq_getElem?_getD, List.getElem?_eq_getElem hk]
  rfl
theorem takeZ_at {b : Bts} {k : Nat} (hk : k < b.length) : (takeZ b k b.length)[k]? = some 0 := by
  unfold takeZ
  have hl : (b.take k).length = k := by rw [List.length_take]; omega
  rw [List.getElem?_append_right (by omega), hl, Nat.sub_self, List.getElem?_replicate, if_pos (by omega)]
theorem takeZ_zero (b : Bts) : takeZ b 0 b.length = List.replicate b.length 0 := by unfold takeZ; simp
theorem takeZ_full (b : Bts) : takeZ b b.length b.length = b := by unfold takeZ; simp
theorem takeZ_len {b : Bts} {k : Nat} (hk : k ≤ b.length) : (takeZ b k b.length).length = b.length := by unfold takeZ; simp; omega
set_option maxRecDepth 100000 in
set_option maxHeartbeats 1600000 in
theorem bytes_ok (B : Bks) (N : Nat) (l : List Ob) (last x : Nat) (o : Ob) (w : World) (hm : Mem B N l last w) (hx : x < 18446744073709551616) (ho : findO l x = some o) (hk : o.hd.kind = 2) :
    Calls Try.prog 50 #[.pointer (some ⟨B.h, 0, none⟩), .int .u64 (x : Int)] w (ByR o.bytes 0 w) := by
  have HH := Lib.hid (Head_some B N l last x o w hm hx ho)
  have HBY := Lib.hid (fun w (hm : Mem B N l last w) (i : Nat) => byte_any B N l last x (i : Int) w hm hx)
  have hok := hm.1.ok o (find_some' ho).1
  have hbl := (hok.bytes hk).1
  have hsz := ((okB_iff _).1 hok.hd).2.2.1
  have hby : ∀ i : Nat, i < o.bytes.length → byteL l x (i : Int) = ((o.bytes.getD i 0).toNat, 0) := fun i hi => by
    unfold byteL
    rw [ho]
    dsimp only
    rw [if_neg (by simp [hk]), if_neg (by omega), Int.toNat_natCast]
  obtain ⟨b, hbb⟩ : ∃ b, o.bytes = b := ⟨_, rfl⟩
  rw [hbb] at hby hbl ⊢
  obtain ⟨i0, hi0, hz0, hz1, hz2⟩ := u8_info
  have HMK := Lib.hid (fun w => make_row (P := Try.prog) 48 U8 i0 (.int .u8 0) (by kernel_rfl) hi0 hz0 hz1 rfl .i64 .i64 b.length (by rw [hz2]; omega) (by unfold maxLen; omega) w)
  obtain ⟨⟨hc, ks, kz, kx, km⟩, hH⟩ : ∃ h, o.hd = h := ⟨_, rfl⟩
  rw [hH] at HH hk hbl hsz
  dsimp only at hk hbl hsz
  subst hk hbl
  have hlen : (b.length : Int) ≤ 1048576 := by omega
  unfold hdV uV at HH
  dsimp only at HH
  have HM := Lib.hid hm
  have HY := Lib.hid hby
  have HLn := Lib.hid hlen
  clear hm hx ho hH hok hby hbb hsz hi0 hz0 hz1 hz2
  have hmk := HMK.out
  go_enter Try.func50, Try.ntmps50
  go_wp2_with fail
  refine HH.out.mono ?_; rintro e w1 ⟨rfl, hb1⟩
  obtain ⟨W2, hal2⟩ : ∃ W2, w1.alloc (.cells #[.int .u64 (hc : Int), .int .i64 2, .int .i64 (b.length : Int), .int .u32 (kx : Int), .bool km] HDT) = W2 := ⟨_, rfl⟩
  have qA : Blk HDT w1.heap.size #[.int .u64 (hc : Int), .int .i64 2, .int .i64 (b.length : Int), .int .u32 (kx : Int), .bool km] W2 := by rw [← hal2]; exact Blk.made _
  have b2 : Below w1.heap.size w1 W2 := by rw [← hal2]; exact alloc_bel _ _
  obtain ⟨W3, hal3⟩ : ∃ W3, W2.alloc (.cells (Array.replicate b.length (.int .u8 0)) U8) = W3 := ⟨_, rfl⟩
  have b3 : Below W2.heap.size W2 W3 := by rw [← hal3]; exact alloc_bel _ _
  have qB : Blk U8 W2.heap.size (rowV byV (takeZ b 0 b.length)) W3 := by
    rw [← hal3, takeZ_zero]
    unfold rowV
    rw [List.map_replicate]
    exact Blk.made _
  have g1 := qA.c 1 _ rfl
  have g2 := qA.c 2 _ rfl
  have HB := Lib.hid ((hb1.trans (b2.mono hb1.size)).trans (b3.mono (Nat.le_trans hb1.size b2.size)))
  have HB3 := Lib.hid b3
  have HS := Lib.hid (Nat.le_trans hb1.size b2.size)
  have QB := Lib.hid qB
  clear hb1 b2 b3 qA qB
  go_wp2_with fail
  have HL : Hid (w.heap.size ≤ W2.heap.size) := HS
  have HM3 := Lib.hid (HM.out.bel HB.out)
  go_loopw [27, 9] (fun y _ wr => ∃ k : Nat, y = .int .i64 (k : Int) ∧ k ≤ b.length ∧ Hid (Below w.heap.size w wr ∧ Below W2.heap.size W2 wr ∧ Blk U8 W2.heap.size (rowV byV (takeZ b k b.length)) wr)) (fun y _ _ => b.length - (intOf y).toNat)
  case atStart => exact ⟨0, rfl, Nat.zero_le _, Lib.hid ⟨HB.out, HB3.out, QB.out⟩⟩
  case round =>
    obtain ⟨k, rfl, hk, hr⟩ := hrel
    have hmw := Lib.hid (HM.out.bel hr.out.1)
    by_cases hkn : k < b.length
    · have hd : decide ((k : Int) < (b.length : Int)) = true := by simpa using hkn
      have hkb : (k : Int) < (b.length : Int) := by omega
      have hy := HY.out k hkn
      have HB1 := Lib.hid (HBY.out wr hmw.out k)
      rw [hy] at HB1
      obtain ⟨c, hcc⟩ : ∃ c, b.getD k 0 = c := ⟨_, rfl⟩
      have hset := takeZ_set hkn
      rw [hcc] at hset
      have HSt := Lib.hid hset
      rw [hcc] at HB1
      clear hy hset hcc
      dsimp only at HB1
      have hsl := hr.out.2.2.lt
      go_wp2_with fail
      refine HB1.out.mono ?_; rintro e w4 ⟨rfl, hb4⟩
      have q4 := hr.out.2.2.below hb4 hr.out.2.2.lt
      have fz := q4.fz
      have cz := q4.c k _ (rowV_get (takeZ_at hkn))
      unfold byV at cz
      have HR := Lib.hid (show Below w.heap.size w w4 ∧ Below W2.heap.size W2 w4 from ⟨hr.out.1.trans (hb4.mono hr.out.1.size), hr.out.2.1.trans (hb4.mono hr.out.2.1.size)⟩)
      have Q4 := Lib.hid q4
      clear hb4 q4 hr
      go_wp2_with fail
      refine ⟨⟨k + 1, by simp, by omega, Lib.hid ⟨HR.out.1.setCell HL.out _, HR.out.2.setCell (Nat.le_refl _) _, ?_⟩⟩, by simp only [intOf]; omega⟩
      exact Q4.out.set_ k _ _ (by rw [← HSt.out]; exact rowV_set byV _ k c)
    · obtain rfl : k = b.length := by omega
      have hd : decide ((b.length : Int) < (b.length : Int)) = false := by simp
      have HR := hr
      clear hr
      go_wp2_with fail
      go_ret2
      refine ⟨_, rfl, ?_, HR.out.1⟩
      have := HR.out.2.2
      rw [takeZ_full] at this
      exact own_blk this HL.out (by unfold maxLen; have := HLn.out; omega)
end Hp
end Go.Proofs.Ytojblndlchcjeaa
