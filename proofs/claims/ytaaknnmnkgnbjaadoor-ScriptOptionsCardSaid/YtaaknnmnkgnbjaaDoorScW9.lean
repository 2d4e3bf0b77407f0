/- Script, the walk, 9: Told. -/
import Derived.Test.YtaaknnmnkgnbjaaDoorScW8
set_option linter.unusedVariables false
namespace Go.Proofs.YtaaknnmnkgnbjaaDoor
open Go.RowKit
namespace Sc
open Bs Sm
set_option maxRecDepth 100000 in
set_option maxHeartbeats 3200000 in
theorem told_any {B B0 : Nat} (v : Value) (cs : List Cmd) (w : World) (hl : Cmds CmT B v cs w) (hB : B0 ≤ B) (hB0 : B0 ≤ w.heap.size) (hn : cs.length ≤ 1000000) :
    Calls Tryd.prog 12 #[v] w (fun e w' => Below w.heap.size w w' ∧ ∃ v', e = .returned v' ∧ Cmds RcT B0 v' cs w' ∧ ∀ k, v'.ownBlock = some k → w.heap.size ≤ k ∧ k < w'.heap.size) := by
  obtain ⟨i0, hi, hz0, hz1, hz2⟩ := info_parts (show (Tryd.prog.info? RcT).map (fun i => (i.zero, i.size, i.bytes)) = some (some (.agg #[.int .i64 0, .int .i64 0, .int .i64 0, .slice none 0 0, .slice none 0 0]), 5, 72) by kernel_rfl)
  have tsl : Tryd.prog.underlying 22 = some (.slice RcT) := by kernel_rfl
  obtain ⟨cl, hcl, hown, hfl⟩ := hl
  obtain ⟨ao, cap, rfl, hao⟩ := own_slice hown
  obtain ⟨n, hnn⟩ : ∃ n, cl.length = n := ⟨_, rfl⟩
  have hcn : cs.length = n := by rw [← hcl, List.length_map, hnn]
  rw [hcn] at hn
  have HOW := Lib.hid hown
  rw [hnn] at hao ⊢
  have HCL := Lib.hid hcl
  have HFL := Lib.hid hfl
  have HN := Lib.hid hnn
  clear hcl hown hfl hnn hcn
  go_enter Tryd.func12, Tryd.ntmps12
  go_wp2_with fail
  go_loopw [3, 8] (fun v y wr => ∃ k : Nat, y = .int .i64 (k : Int) ∧ k ≤ n ∧ Hid (∃ cl' : List (Cmd × Value × Value), cl'.map (·.1) = cs.take k ∧ wr.ownsRow w.heap.size RcT 5 v cl'.length (flatM cl') ∧ ∀ x ∈ cl', Ints B x.2.1 x.1.list wr ∧ Byts B x.2.2 x.1.bytes wr) ∧ Below w.heap.size w wr) (fun _ y _ => n - (intOf y).toNat)
  case atStart => exact ⟨0, rfl, Nat.zero_le _, Lib.hid ⟨[], by rw [List.take_zero]; rfl, World.ownsRow_nil _ _ _ _, fun x hx => by cases hx⟩, Below.refl _ _⟩
  case round =>
    obtain ⟨k, rfl, hk, hq, hbr⟩ := hrel
    by_cases hkn : k < n
    · have hdec : decide ((k : Int) < (n : Int)) = true := by simpa using hkn
      have hkw : IntKind.i64.wrap ((k : Int) + 1) = (k : Int) + 1 := IntWalk.i64_in _ (by omega)
      obtain ⟨gb, rfl, -, hgb, hgc, -⟩ := hao (by omega)
      obtain ⟨x, hx⟩ : ∃ x, cl[k]? = some x := ⟨_, List.getElem?_eq_getElem (by rw [HN.out]; exact hkn)⟩
      have hcx : cs[k]? = some x.1 := by rw [← HCL.out, List.getElem?_map, hx]; rfl
      obtain ⟨c0, c1, c2, c3, c4⟩ := cmd_at (own_below HOW.out hbr) k x hx
      have hfx := HFL.out x (List.mem_of_getElem? hx)
      have htk := take_snoc hcx
      obtain ⟨c, lv, bv⟩ := x
      dsimp only at c0 c1 c2 c3 c4 hfx htk
      have hLV := own_below hfx.1 hbr
      have hBV := own_below hfx.2 hbr
      obtain ⟨lo, lc, rfl, -⟩ := own_slice hLV
      obtain ⟨bo, bc, rfl, -⟩ := own_slice hBV
      obtain ⟨ln, hln⟩ : ∃ z, c.list.length = z := ⟨_, rfl⟩
      obtain ⟨bn, hbn⟩ : ∃ z, c.bytes.length = z := ⟨_, rfl⟩
      obtain ⟨ck, hck⟩ : ∃ z : Int, (c.kind : Int) = z := ⟨_, rfl⟩
      obtain ⟨cn, hcn⟩ : ∃ z : Int, c.n = z := ⟨_, rfl⟩
      obtain ⟨ca, hca⟩ : ∃ z : Int, c.at_ = z := ⟨_, rfl⟩
      have HCV : Hid (cellsM (c, .slice lo ln lc, .slice bo bn bc) = [.int .i64 ck, .int .i64 cn, .int .i64 ca, .slice lo ln lc, .slice bo bn bc]) := Lib.hid (by unfold cellsM; rw [hck, hcn, hca])
      rw [hck] at c0
      rw [hcn] at c1
      rw [hca] at c2
      rw [hln] at c3
      rw [hbn] at c4
      have HI : Hid (Ints B (.slice lo ln lc) c.list wr) := Lib.hid (by rw [← hln]; exact hLV)
      have HB : Hid (Byts B (.slice bo bn bc) c.bytes wr) := Lib.hid (by rw [← hbn]; exact hBV)
      obtain ⟨cl', hcl', hownC, hfl'⟩ := hq.out
      have hcll : cl'.length = k := by
        have h := congrArg List.length hcl'
        rw [List.length_map, List.length_take] at h
        have h2 : cs.length = n := by rw [← HCL.out, List.length_map, HN.out]
        omega
      have HCL2 : Hid ((cl' ++ [(c, Value.slice lo ln lc, Value.slice bo bn bc)]).map (·.1) = cs.take (k + 1)) := Lib.hid (by rw [htk, List.map_append, hcl']; rfl)
      have hgb' := Nat.lt_of_lt_of_le hgb hbr.size
      have HOC := Lib.hid hownC
      have HFL' := Lib.hid hfl'
      clear hx hcx hfx htk hLV hBV hln hbn hck hcn hca hq hcl' hownC hfl'
      go_upto_region 5 with fail
      have hX5 : Below wr.heap.size wr (wr.alloc (.cells #[.int .i64 ck, .int .i64 cn, .int .i64 ca, .slice lo ln lc, .slice bo bn bc] CmT)) := (Below.refl _ _).alloc (Nat.le_refl _) _
      have hk5 := Blk.made (T := CmT) (cs := #[.int .i64 ck, .int .i64 cn, .int .i64 ca, .slice lo ln lc, .slice bo bn bc]) wr
      obtain ⟨W5, hW5⟩ : ∃ W, wr.alloc (.cells #[.int .i64 ck, .int .i64 cn, .int .i64 ca, .slice lo ln lc, .slice bo bn bc] CmT) = W := ⟨_, rfl⟩
      rw [hW5] at hX5 hk5 ⊢
      obtain ⟨KB, hKB⟩ : ∃ b, wr.heap.size = b := ⟨_, rfl⟩
      have hbr5 := hbr.trans (hX5.mono hbr.size)
      have HOC5 := Lib.hid (own_below HOC.out hX5)
      have HFL5 : Hid (∀ y ∈ cl', Ints B y.2.1 y.1.list W5 ∧ Byts B y.2.2 y.1.bytes W5) := Lib.hid (fun y hy => ⟨own_below (HFL'.out y hy).1 hX5, own_below (HFL'.out y hy).2 hX5⟩)
      have HI5 := Lib.hid (own_below HI.out hX5)
      have HB5 := Lib.hid (own_below HB.out hX5)
      rw [hKB] at hk5 ⊢
      have d0 := hk5.c 0 _ rfl
      have d1 := hk5.c 1 _ rfl
      have d2 := hk5.c 2 _ rfl
      have d3 := hk5.c 3 _ rfl
      have d4 := hk5.c 4 _ rfl
      clear hW5 hKB hX5 hk5 HOC HFL' HI HB c0 c1 c2 c3 c4
      go_wp2_with (at_builtin; refine wpList_append_own _ rfl _ _ 22 rfl w.heap.size RcT i0 (.agg #[.int .i64 0, .int .i64 0, .int .i64 0, .slice none 0 0, .slice none 0 0]) 5 72 tsl hi hz0 hz1 hz2 rfl (by decide) _ cl'.length _ rfl (HOC5.out.alloc _) ⟨W5.heap.size, 0, none⟩ 1 1 [.int .i64 ck, .int .i64 cn, .int .i64 ca, .slice lo ln lc, .slice bo bn bc] rfl rfl ?c1 ?c2 ?c3 ?c4 ?c5 ?_)
      case c1 => have := cells5 W5 RcT (.int .i64 ck) (.int .i64 cn) (.int .i64 ca) (.slice lo ln lc) (.slice bo bn bc); simpa using this
      case c2 => intro u hu; simp at hu; rcases hu with rfl | rfl | rfl | rfl | rfl <;> rfl
      case c3 => unfold maxLen; omega
      case c4 => omega
      case c5 => have := hbr5.size; simp; omega
      intro v6 w6 hown6 hg6 _
      have hoX := HOC5.out.alloc (.cells #[.int .i64 ck, .int .i64 cn, .int .i64 ca, .slice lo ln lc, .slice bo bn bc] RcT)
      have hbX : Below w.heap.size w (W5.alloc (.cells #[.int .i64 ck, .int .i64 cn, .int .i64 ca, .slice lo ln lc, .slice bo bn bc] RcT)) := hbr5.alloc hbr5.size _
      have hX4 : Below W5.heap.size W5 (W5.alloc (.cells #[.int .i64 ck, .int .i64 cn, .int .i64 ca, .slice lo ln lc, .slice bo bn bc] RcT)) := (Below.refl _ _).alloc (Nat.le_refl _) _
      have hb6 := hbX.grown hg6 hbX.size (fun k hk => (hoX.lt k hk).1)
      have HO : Hid (∃ cl' : List (Cmd × Value × Value), cl'.map (·.1) = cs.take (k + 1) ∧ w6.ownsRow w.heap.size RcT 5 v6 cl'.length (flatM cl') ∧ ∀ x ∈ cl', Ints B x.2.1 x.1.list w6 ∧ Byts B x.2.2 x.1.bytes w6) := Lib.hid ⟨cl' ++ [(c, .slice lo ln lc, .slice bo bn bc)], HCL2.out, by rw [flatM_snoc, HCV.out, List.length_append, hcll]; exact hown6, fun y hy => by
        rcases List.mem_append.1 hy with hy | hy
        · exact ⟨own_grown (own_below (HFL5.out y hy).1 hX4) hg6 hoX (by decide), own_grown (own_below (HFL5.out y hy).2 hX4) hg6 hoX (by decide)⟩
        · obtain rfl := List.mem_singleton.1 hy
          exact ⟨own_grown (own_below HI5.out hX4) hg6 hoX (by decide), own_grown (own_below HB5.out hX4) hg6 hoX (by decide)⟩⟩
      clear hown6 hg6 hoX hbX hX4 d0 d1 d2 d3 d4
      go_wp2_with fail
      exact ⟨⟨k + 1, by simp, by omega, HO, hb6⟩, by simp only [intOf]; omega⟩
    · obtain rfl : k = n := by omega
      have hdec : decide ((k : Int) < (k : Int)) = false := by simp
      obtain ⟨cl', h1, h2, h3⟩ := hq.out
      have hall : cs.take k = cs := List.take_of_length_le (by rw [← HCL.out, List.length_map, HN.out]; exact Nat.le_refl _)
      rw [hall] at h1
      have HR := Lib.hid (show Cmds RcT B0 _ cs wr from ⟨cl', h1, own_mono h2 hB0, fun x hx => ⟨own_mono (h3 x hx).1 hB, own_mono (h3 x hx).2 hB⟩⟩)
      have HNW := Lib.hid (World.ownsRow.lt h2)
      clear hq h1 h2 h3 hall
      go_wp2_with fail
      go_ret
      exact ⟨hbr, _, rfl, HR.out, HNW.out⟩
end Sc
end Go.Proofs.YtaaknnmnkgnbjaaDoor
