/- The reference's All (a part of XTrR4). -/
import Derived.Test.YtfbhokdcnjekiaaGreatDoorTrCut
import Derived.Laws.AppendOwnNone
set_option linter.unusedVariables false
namespace Go.Proofs.YtfbhokdcnjekiaaGreatDoor
open Go.RowKit
namespace Tr
open Bs Sm
/-- All nodes in a row. -/
def AllOk (l : List Nd) : Prop := ∀ (v : Value) (w : World), Tree (fun _ => True) w v l → Calls Tryz.prog 15 #[v] w
  (fun e w' => Below w.heap.size w w' ∧ ∃ v' vl, e = .returned v' ∧ (vl : VL).map (·.1) = allL l ∧ w'.ownsRow w.heap.size RT 6 v' vl.length (flatN vl) ∧ (vl = [] → v' = .slice none 0 0) ∧ ∀ u ∈ flatN vl, u.oneCell' = true)
theorem all_take {l : List Nd} {k : Nat} {x : Nd} (hx : l[k]? = some x) : allL (l.take (k + 1)) = allL (l.take k) ++ [x] ++ allL x.kids := by
  rw [take_snoc hx, allL_append, allL_cons, allL_nil]
  simp
theorem flatN_app (a b : VL) : flatN (a ++ b) = flatN a ++ flatN b := by unfold flatN; simp
set_option maxRecDepth 100000 in
set_option maxHeartbeats 3200000 in
theorem rall_step (l : List Nd) (hcnt : cntL l ≤ 100000) (IH : ∀ y ∈ l, AllOk y.kids) : AllOk l := by
  intro v w hl
  obtain ⟨i0, hi0, hz0, hz1, hz2⟩ := info_parts (show (Tryz.prog.info? 45).map (fun i => (i.zero, i.size, i.bytes)) = some (some (.agg #[.int .i64 0, .string ⟨#[]⟩, .int .i64 0, .slice none 0 0, .slice none 0 0, .int .i64 0]), 6, 88) by kernel_rfl)
  have tsl : Tryz.prog.underlying 23 = some (.slice 45) := by kernel_rfl
  obtain ⟨a, c, rfl, hc, hm⟩ := hl.form
  obtain ⟨n, hn⟩ : ∃ n, l.length = n := ⟨_, rfl⟩
  have HN := Lib.hid hn
  unfold maxLen at hm
  rw [hn] at hl hc ⊢
  have HL := Lib.hid hl
  have hlen : ∀ k, (allL (l.take k)).length ≤ 100000 := fun k => by
    rw [allL_len]
    have h2 := cntL_append (l.take k) (l.drop k)
    rw [List.take_append_drop] at h2
    omega
  have HLE := Lib.hid hlen
  replace IH := Lib.hid IH
  clear hl hn hlen
  go_enter Tryz.func15, Tryz.ntmps15
  go_wp2_with fail
  go_loopw [3, 4] (fun o y wr => ∃ (k : Nat) (vl : VL), y = .int .i64 (k : Int) ∧ k ≤ n ∧ Hid (wr.ownsRow w.heap.size RT 6 o vl.length (flatN vl)) ∧ Hid (vl.map (·.1) = allL (l.take k)) ∧ Hid (vl = [] → o = .slice none 0 0) ∧ Hid (∀ u ∈ flatN vl, u.oneCell' = true) ∧ Hid (Below w.heap.size w wr)) (fun _ y _ => n - (intOf y).toNat)
  case atStart => exact ⟨0, [], rfl, Nat.zero_le _, Lib.hid (World.ownsRow_nil _ _ _ _), Lib.hid (by rw [List.take_zero, allL_nil]; rfl), Lib.hid (fun _ => rfl), Lib.hid (fun u hu => by cases hu), Lib.hid (Below.refl _ _)⟩
  case round =>
    obtain ⟨k, vl, rfl, hk, hown, hvl, hnil, hone, hbr⟩ := hrel
    by_cases hkn : k < n
    · have hdec : decide ((k : Int) < (n : Int)) = true := by simpa using hkn
      have hkw : IntKind.i64.wrap ((k : Int) + 1) = (k : Int) + 1 := IntWalk.i64_in _ (by omega)
      obtain ⟨gb, off, x, ka, kc, na, nc, rfl, hx, hgb, -, hrow, hkt, hnt⟩ := HL.out.nth k hkn
      obtain ⟨c0, c1, c2, c3, c4, c5⟩ := hrow.kp (w' := wr) (fun i => hbr.out.cell (p := ⟨gb, i, none⟩) hgb)
      have HSTEP := Lib.hid (all_take hx)
      have HIH := Lib.hid (IH.out x (List.mem_of_getElem? hx))
      have hvll : vl.length ≤ 100000 := by have h1 := HLE.out k; rw [← hvl.out, List.length_map] at h1; exact h1
      have hsz1 : (vl.length + 1) + (allL x.kids).length ≤ 100000 := by
        have h1 := HLE.out (k + 1)
        rw [HSTEP.out, ← hvl.out] at h1
        simp only [List.length_append, List.length_map, List.length_cons, List.length_nil] at h1
        omega
      have HX := Lib.hid (alloc_bel wr (.cells #[.int .i64 x.kind, .string ⟨x.name.toArray⟩, .int .i64 x.num, .slice ka x.kids.length kc, .slice na x.names.length nc, .int .i64 x.at_] 45))
      have HROW := Lib.hid (own_below hown.out HX.out)
      have HKT := Lib.hid hkt
      have HRW := Lib.hid hrow
      have hwb := hbr.out.size
      have HOWN5 := Lib.hid hown.out.lt
      obtain ⟨W5, hW5⟩ : ∃ W, wr.alloc (.cells #[.int .i64 x.kind, .string ⟨x.name.toArray⟩, .int .i64 x.num, .slice ka x.kids.length kc, .slice na x.names.length nc, .int .i64 x.at_] 45) = W := ⟨_, rfl⟩
      have hc6 := cells6 wr RT (.int .i64 x.kind) (.string ⟨x.name.toArray⟩) (.int .i64 x.num) (.slice ka x.kids.length kc) (.slice na x.names.length nc) (.int .i64 x.at_)
      rw [hW5] at HX HROW
      have hs5 : W5.heap.size = wr.heap.size + 1 := by rw [← hW5]; simp
      have HC6 : Hid (∀ j u, [Value.int .i64 x.kind, .string ⟨x.name.toArray⟩, .int .i64 x.num, .slice ka x.kids.length kc, .slice na x.names.length nc, .int .i64 x.at_][j]? = some u → W5.cell? ((⟨wr.heap.size, 0, none⟩ : Addr).add j) = some u) := Lib.hid (by rw [← hW5]; exact hc6)
      clear hrow hkt hnt hc6
      go_wp2_with (at_builtin; refine wpList_append_lies _ rfl _ _ 23 rfl w.heap.size RT i0 (.agg #[.int .i64 0, .string ⟨#[]⟩, .int .i64 0, .slice none 0 0, .slice none 0 0, .int .i64 0]) 6 88 tsl hi0 hz0 hz1 hz2 rfl (by decide) _ vl.length (flatN vl) rfl HROW.out ⟨wr.heap.size, 0, none⟩ 1 1 [.int .i64 x.kind, .string ⟨x.name.toArray⟩, .int .i64 x.num, .slice ka x.kids.length kc, .slice na x.names.length nc, .int .i64 x.at_] rfl rfl HC6.out (fun u hu => by simp at hu; rcases hu with rfl | rfl | rfl | rfl | rfl | rfl <;> rfl) (by decide) (by unfold maxLen; omega) (by omega) (by omega) _ rfl ?_)
      intro g cap w6 hown6 hgrow6 hat6 hlt6
      have hb6 : Below w.heap.size w w6 := (hbr.out.trans (HX.out.mono hwb)).grown hgrow6 (by have := hbr.out.size; have := HX.out.size; omega) (fun k hk => (HOWN5.out k hk).1)
      obtain ⟨f0, f1, f2, f3, f4, f5⟩ := HRW.out.kp (w' := w6) (fun i => hb6.cell (p := ⟨gb, i, none⟩) hgb)
      have HC := Lib.hid (HIH.out _ w6 (HKT.out.bel hb6))
      have e6 : flatN vl ++ [.int .i64 x.kind, .string ⟨x.name.toArray⟩, .int .i64 x.num, .slice ka x.kids.length kc, .slice na x.names.length nc, .int .i64 x.at_] = flatN (vl ++ [((x, .slice ka x.kids.length kc, .slice na x.names.length nc) : Nd × Value × Value)]) := by rw [flatN_snoc]; rfl
      rw [e6] at hown6
      have HO6 := Lib.hid hown6
      have HB6 := Lib.hid hb6
      have HNE : Hid (∀ u ∈ flatN (vl ++ [((x, .slice ka x.kids.length kc, .slice na x.names.length nc) : Nd × Value × Value)]), u.oneCell' = true) := Lib.hid (by
        rw [← e6]
        intro u hu
        rcases List.mem_append.1 hu with hu | hu
        · exact hone.out u hu
        · simp at hu; rcases hu with rfl | rfl | rfl | rfl | rfl | rfl <;> rfl)
      clear hown6 hgrow6 hat6 hb6 c0 c1 c2 c3 c4 c5 e6 hW5
      go_wp2_with fail
      refine HC.out.mono ?_; rintro e w7 ⟨hb7, v7, vl7, rfl, hvl7, hown7, hnil7, hone7⟩
      have HB7 := Lib.hid (HB6.out.trans (hb7.mono HB6.out.size))
      have HO7 := Lib.hid (own_below HO6.out hb7)
      have HVL7 := Lib.hid hvl7
      have HNE7 := Lib.hid hone7
      have HL7 : Hid (vl7.length = (allL x.kids).length) := Lib.hid (by rw [← hvl7, List.length_map])
      have HALL : Hid ((vl ++ [((x, .slice ka x.kids.length kc, .slice na x.names.length nc) : Nd × Value × Value)] ++ vl7).map (·.1) = allL (l.take (k + 1))) := Lib.hid (by
        rw [HSTEP.out, ← hvl.out, ← hvl7]; simp)
      by_cases h7 : vl7 = []
      · have hv7 := hnil7 h7
        subst hv7
        subst h7
        clear hb7 hown7 hnil7 hone7 hvl7 f0 f1 f2 f3 f4 f5
        go_wp2_with (at_builtin; refine wpList_append_own_none rfl _ _ 23 rfl w.heap.size RT i0 6 tsl hi0 _ (vl.length + 1) (flatN (vl ++ [((x, .slice ka x.kids.length kc, .slice na x.names.length nc) : Nd × Value × Value)])) rfl HO7.out rfl ?_)
        go_wp2_with fail
        exact ⟨⟨k + 1, vl ++ [((x, .slice ka x.kids.length kc, .slice na x.names.length nc) : Nd × Value × Value)], by simp, by omega, Lib.hid (by have h := HO7.out; rw [List.length_append]; exact h), Lib.hid (by have := HALL.out; simpa using this), Lib.hid (fun h => by simp at h), HNE, HB7⟩, by simp only [intOf]; omega⟩
      · have hp7 : 0 < vl7.length := List.length_pos_iff.2 h7
        obtain ⟨g7, cap7, rfl, hg7, hlt7⟩ := hown7.form hp7
        have HC7 : Hid (∀ j u, (flatN vl7)[j]? = some u → w7.cell? ((⟨g7, 0, none⟩ : Addr).add j) = some u) := Lib.hid (fun j u hj => World.ownsRow.cells hown7 (g := g7) rfl j u hj)
        have hs7 := HB7.out.size
        clear hb7 hown7 hnil7 hone7 hvl7 f0 f1 f2 f3 f4 f5 h7
        go_wp2_with (at_builtin; refine wpList_append_lies _ rfl _ _ 23 rfl w.heap.size RT i0 (.agg #[.int .i64 0, .string ⟨#[]⟩, .int .i64 0, .slice none 0 0, .slice none 0 0, .int .i64 0]) 6 88 tsl hi0 hz0 hz1 hz2 rfl (by decide) _ (vl.length + 1) (flatN (vl ++ [((x, .slice ka x.kids.length kc, .slice na x.names.length nc) : Nd × Value × Value)])) rfl HO7.out ⟨g7, 0, none⟩ vl7.length cap7 (flatN vl7) rfl (flatN_len vl7) HC7.out HNE7.out hp7 (by have := HL7.out; unfold maxLen; omega) (by have := HL7.out; omega) (by omega) _ rfl ?_)
        intro g8 cap8 w8 hown8 hgrow8 hat8 hlt8
        have HB8 : Hid (Below w.heap.size w w8) := Lib.hid (HB7.out.grown hgrow8 hs7 (fun k hk => (HO7.out.lt k hk).1))
        rw [← flatN_app] at hown8
        have HO8 := Lib.hid hown8
        clear hown8 hgrow8 hat8 hlt8
        go_wp2_with fail
        exact ⟨⟨k + 1, vl ++ [((x, .slice ka x.kids.length kc, .slice na x.names.length nc) : Nd × Value × Value)] ++ vl7, by simp, by omega, Lib.hid (by have h := HO8.out; rw [List.length_append, List.length_append]; exact h), HALL, Lib.hid (fun h => by simp at h), Lib.hid (fun u hu => by
          rw [flatN_app] at hu
          rcases List.mem_append.1 hu with hu | hu
          · exact HNE.out u hu
          · exact HNE7.out u hu), HB8⟩, by simp only [intOf]; omega⟩
    · obtain rfl : k = n := by omega
      have hdec : decide ((k : Int) < (k : Int)) = false := by simp
      have hall : l.take k = l := List.take_of_length_le (by rw [HN.out]; exact Nat.le_refl _)
      rw [hall] at hvl
      clear hall
      go_wp2_with fail
      go_ret
      exact ⟨hbr.out, _, vl, rfl, hvl.out, hown.out, hnil.out, hone.out⟩
theorem rall_all : ∀ (m : Nat) (l : List Nd), cntL l < m → cntL l ≤ 100000 → AllOk l
  | 0, l, h, _ => by omega
  | m + 1, l, h, h2 => rall_step l h2 (fun y hy => rall_all m y.kids (by have := cnt_mem hy; omega) (by have := cnt_mem hy; omega))
theorem rall_any (l : List Nd) (h : cntL l ≤ 100000) : AllOk l := rall_all (cntL l + 1) l (by omega) h
end Tr
end Go.Proofs.YtfbhokdcnjekiaaGreatDoor
