/- Chapter 11: awake. -/
import Derived.Test.YtbdgoimbddlcoaaGreatDoorPaWr
import Derived.Test.YtbdgoimbddlcoaaGreatDoorPaAw
set_option linter.unusedVariables false
namespace Go.Proofs.YtbdgoimbddlcoaaGreatDoor
open Go.RowKit
namespace Pa
open Bs Sm Tr
open Lx (Mv)
set_option maxRecDepth 100000 in
set_option maxHeartbeats 1600000 in
theorem awake_any (w : World) (hpow : Bs.Pow10 w) (herr : Bs.ErrVar w) (hmax : MaxV w) :
  Calls Tryz.prog 6 #[] w (Back (.bool true) w) := by
 have HM := Method_any ⟨#[102, 111, 111, 58, 32, 120, 32, 94, 120, 32, 43, 32, 49]⟩ w (by decide) herr
 have hmr : methR (ByteArray.mk #[102, 111, 111, 58, 32, 120, 32, 94, 120, 32, 43, 32, 49]).data.toList = .ok awM := aw_meth
 rw [hmr] at HM
 replace HM := Lib.hid HM
 have HPOW := Lib.hid hpow
 have HMAX := Lib.hid hmax
 have HERR := Lib.hid herr
 clear hpow hmax herr hmr
 go_enter Tryz.func6, Tryz.ntmps6
 go_wp2_with fail
 refine HM.out.mono ?_; rintro e w1 ⟨hb1, pv, tv, bv, rfl, hmt⟩
 obtain ⟨pa, pc, rfl, -, -⟩ := hmt.params.form
 obtain ⟨ta, tc, rfl, -, -⟩ := hmt.temps.form
 obtain ⟨ba, bc, rfl, -, -⟩ := hmt.body.form
 have hV : mtV awM (.slice pa awM.params.length pc) (.slice ta awM.temps.length tc) (.slice ba awM.body.length bc) = .agg #[.string ⟨#[102, 111, 111, 58]⟩, .slice pa 1 pc, .slice ta 0 tc, .int .i64 0, .slice ba 1 bc, .int .i64 0] := rfl
 rw [hV]
 have hK5 := Blk.made (T := 28) (cs := #[.string ⟨#[]⟩, .slice none 0 0, .slice none 0 0, .int .i64 0, .slice none 0 0, .int .i64 0]) w1
 have hb5 := alloc_bel w1 (.cells #[.string ⟨#[]⟩, .slice none 0 0, .slice none 0 0, .int .i64 0, .slice none 0 0, .int .i64 0] 28)
 obtain ⟨W5, hal⟩ : ∃ W, w1.alloc (.cells #[.string ⟨#[]⟩, .slice none 0 0, .slice none 0 0, .int .i64 0, .slice none 0 0, .int .i64 0] 28) = W := ⟨_, rfl⟩
 rw [hal] at hK5 hb5
 obtain ⟨kz, hkz⟩ : ∃ k, w1.heap.size = k := ⟨_, rfl⟩
 rw [hkz] at hK5
 have hkw : W5.heap.size = kz + 1 := by rw [← hal, ← hkz]; simp
 have c0 := hK5.c 0 _ rfl
 have c1 := hK5.c 1 _ rfl
 have c2 := hK5.c 2 _ rfl
 have c3 := hK5.c 3 _ rfl
 have c4 := hK5.c 4 _ rfl
 have c5 := hK5.c 5 _ rfl
 have cf := hK5.fz
 have hbs := hb1.trans (hb5.mono hb1.size)
 have hw1 := hb1.size
 have hK6 := blk_set6 (v0 := .string ⟨#[102, 111, 111, 58]⟩) (v1 := .slice pa 1 pc) (v2 := .slice ta 0 tc) (v3 := .int .i64 0) (v4 := .slice ba 1 bc) (v5 := .int .i64 0) hK5
 have hB6 := ((((((hbs.setCell (p := ⟨kz, 0, none⟩) (show w.heap.size ≤ kz by omega) (.string ⟨#[102, 111, 111, 58]⟩)).setCell (p := ⟨kz, 1, none⟩) (show w.heap.size ≤ kz by omega) (.slice pa 1 pc)).setCell (p := ⟨kz, 2, none⟩) (show w.heap.size ≤ kz by omega) (.slice ta 0 tc)).setCell (p := ⟨kz, 3, none⟩) (show w.heap.size ≤ kz by omega) (.int .i64 0)).setCell (p := ⟨kz, 4, none⟩) (show w.heap.size ≤ kz by omega) (.slice ba 1 bc)).setCell (p := ⟨kz, 5, none⟩) (show w.heap.size ≤ kz by omega) (.int .i64 0))
 have hm6 := ((hmt.mono (S' := fun j => j ≠ kz) (fun j hj hl => by omega)).bel hb5).kp (kp_set6 (k := kz) (v0 := .string ⟨#[102, 111, 111, 58]⟩) (v1 := .slice pa 1 pc) (v2 := .slice ta 0 tc) (v3 := .int .i64 0) (v4 := .slice ba 1 bc) (v5 := .int .i64 0) (by simp))
 obtain ⟨W6, hW6⟩ : ∃ W, (((((W5.setCell ⟨kz, 0, none⟩ (.string ⟨#[102, 111, 111, 58]⟩)).setCell ⟨kz, 1, none⟩ (.slice pa 1 pc)).setCell ⟨kz, 2, none⟩ (.slice ta 0 tc)).setCell ⟨kz, 3, none⟩ (.int .i64 0)).setCell ⟨kz, 4, none⟩ (.slice ba 1 bc)).setCell ⟨kz, 5, none⟩ (.int .i64 0) = W := ⟨_, rfl⟩
 rw [hW6] at hK6 hB6 hm6
 have HP := Print_any awM _ _ _ aw_mild (by decide) W6 (hm6.mono (fun _ _ _ => trivial)) (HPOW.out.below hB6) (HMAX.out.below hB6) (HERR.out.below hB6)
 rw [aw_check, aw_print, if_pos rfl, hV] at HP
 replace HP := Lib.hid HP
 have d0 := hK6.c 0 _ rfl
 have d1 := hK6.c 1 _ rfl
 have d2 := hK6.c 2 _ rfl
 have d3 := hK6.c 3 _ rfl
 have d4 := hK6.c 4 _ rfl
 have d5 := hK6.c 5 _ rfl
 have HB := Lib.hid hB6
 have HK := Lib.hid hK6
 have hlt := hK6.lt
 clear hmt hbs hb1 hV hK5 hK6 hB6 hm6 HM hb5
 go_wp2_with fail
 refine HP.out.mono ?_; rintro e w2 ⟨hb2, rfl⟩
 have hk2 := HK.out.below hb2 HK.out.lt
 have HB2 := Lib.hid (HB.out.trans (hb2.mono HB.out.size))
 clear hb2 c0 c1 c2 c3 c4 c5 d0 d1 d2 d3 d4 d5
 have d4 := hk2.c 4 _ rfl
 clear hk2
 go_wp2_with fail
 go_ret
 exact ⟨rfl, HB2.out⟩
end Pa
end Go.Proofs.YtbdgoimbddlcoaaGreatDoor
