/- Script, the walk, 2: split. -/
import Derived.Test.YtaaknnmnkgnbjaaDoorScW1
import Derived.Deep.DeepCutAuto
set_option linter.unusedVariables false
namespace Go.Proofs.YtaaknnmnkgnbjaaDoor
open Go.RowKit
namespace Sc
open Bs Sm
/-- A slice of texts, wherever it lies. -/
def StAt (w : World) (v : Value) (l : List Bytes) : Prop :=
  ∃ a cap, v = .slice a l.length cap ∧ l.length ≤ cap ∧ (0 < l.length → ∃ b off, a = some ⟨b, off, none⟩ ∧ b < w.heap.size ∧ cap ≤ maxLen ∧ ∀ i x, l[i]? = some x → w.cell? ⟨b, off + i, none⟩ = some (strV x))
theorem StAt.below {w w' : World} {v : Value} {l : List Bytes} (h : StAt w v l) (hb : Below w.heap.size w w') : StAt w' v l := by
  obtain ⟨a, cap, h1, h2, h3⟩ := h
  refine ⟨a, cap, h1, h2, fun hl => ?_⟩
  obtain ⟨b, off, k1, k2, k3, k4⟩ := h3 hl
  exact ⟨b, off, k1, Nat.lt_of_lt_of_le k2 hb.size, k3, fun i x hx => (hb.cell (p := ⟨b, off + i, none⟩) k2).trans (k4 i x hx)⟩
theorem StAt.of {w : World} {v : Value} {l : List Bytes} {B : Nat} (h : Strs B v l w) : StAt w v l := by
  unfold Strs at h
  obtain ⟨ao, c, rfl, hao⟩ := own_slice h
  refine ⟨ao, c, rfl, ?_, fun hl => ?_⟩
  · rcases Nat.eq_zero_or_pos l.length with h0 | h0
    · omega
    · obtain ⟨g, _, _, _, h4, _⟩ := hao h0; exact h4
  · obtain ⟨g, rfl, h1, h2, h3, h4⟩ := hao hl
    exact ⟨g, 0, rfl, h2, h4, fun i x hx => by rw [Nat.zero_add]; exact strs_at h i x hx⟩
theorem filt_snoc {α : Type} {p : α → Bool} {l : List α} {k : Nat} {x : α} (h : l[k]? = some x) : (l.take (k + 1)).filter p = (l.take k).filter p ++ [x].filter p := by
  rw [List.take_add_one, h, List.filter_append]; rfl
theorem strV_b (b : ByteArray) : strV b.data.toList = .string b := rfl
set_option maxRecDepth 100000 in
set_option maxHeartbeats 1600000 in
theorem split_any (s : ByteArray) (w : World) (hs : s.size ≤ 65536) (hm : MaxV w) :
    Calls Tryd.prog 16 #[.string s] w (fun e w' => Below w.heap.size w w' ∧ ∃ v, e = .returned v ∧ Strs w.heap.size v (wordsR s.data.toList) w') := by
  obtain ⟨m, hm⟩ := hm
  obtain ⟨L, hLe⟩ : ∃ L, Lib.splitB ⟨#[32]⟩ 0 (Lib.countB s ⟨#[32]⟩) s = L := ⟨_, rfl⟩
  have hL : L.map (·.data.toList) = sp1 32 s.data.toList := by
    rw [← hLe, Lib.splitB_data, ← split_sp1]; rfl
  have hlen : Lib.countB s ⟨#[32]⟩ + 1 = L.length := by rw [← hLe]; exact (Lib.splitB_all ⟨#[32]⟩ (by decide) 0 _ s rfl).symm
  have hl2 : L.length ≤ 65537 := by
    have h1 : L.length = (sp1 32 s.data.toList).length := by rw [← hL, List.length_map]
    rw [h1, sp1_len]
    have h2 : s.data.toList.count 32 ≤ s.data.toList.length := List.count_le_length
    have h3 : s.data.toList.length = s.size := rfl
    omega
  have hS := Tryd.strings_Split s ⟨#[32]⟩ m w (by omega) hm (by decide)
  rw [hLe, hlen] at hS
  obtain ⟨n, hn⟩ : ∃ n, L.length = n := ⟨_, rfl⟩
  rw [hn] at hS hl2
  have HS := Lib.hid hS
  have HL := Lib.hid hL
  have HN := Lib.hid hn
  unfold wordsR
  clear hS hL hLe hlen hm hn
  obtain ⟨i0, hi, hz0, hz1, hz2⟩ := info_parts (show (Tryd.prog.info? ST).map (fun i => (i.zero, i.size, i.bytes)) = some (some (.string ⟨#[]⟩), 1, 16) by kernel_rfl)
  have tsl : Tryd.prog.underlying 44 = some (.slice ST) := by kernel_rfl
  go_enter Tryd.func16, Tryd.ntmps16
  go_wp2_with fail
  refine HS.out.mono ?_; rintro e w1 ⟨rfl, hw1⟩
  go_wp2_with fail
  have hk1 := Blk.made (T := ST) (cs := (L.map Value.string).toArray) w
  have hb1 : Below w.heap.size w (w.alloc (.cells (L.map Value.string).toArray ST)) := (Below.refl _ w).alloc (Nat.le_refl _) _
  have hs1 : (w.alloc (.cells (L.map Value.string).toArray ST)).heap.size = w.heap.size + 1 := by simp
  obtain ⟨W1, hW1⟩ : ∃ W1, w.alloc (.cells (L.map Value.string).toArray ST) = W1 := ⟨_, rfl⟩
  rw [hW1] at hk1 hb1 hs1 ⊢
  have HK1 := Lib.hid hk1
  have HB1 := Lib.hid hb1
  clear hW1 hk1 hb1 hs1
  go_loopw [3, 9] (fun v y wr => ∃ k : Nat, y = .int .i64 (k : Int) ∧ k ≤ n ∧ Hid (Strs W1.heap.size v (((sp1 32 s.data.toList).take k).filter (fun w => decide (w ≠ []))) wr) ∧ Below W1.heap.size W1 wr) (fun _ y _ => n - (intOf y).toNat)
  case atStart => exact ⟨0, rfl, Nat.zero_le _, Lib.hid (by rw [List.take_zero]; exact World.ownsRow_nil _ _ _ _), Below.refl _ _⟩
  case round =>
    obtain ⟨k, rfl, hk, hown, hbr⟩ := hrel
    by_cases hkn : k < n
    · have hdec : decide ((k : Int) < (n : Int)) = true := by simpa using hkn
      have hkw : IntKind.i64.wrap ((k : Int) + 1) = (k : Int) + 1 := IntWalk.i64_in _ (by omega)
      obtain ⟨x, hx⟩ : ∃ x, L[k]? = some x := ⟨_, List.getElem?_eq_getElem (by rw [HN.out]; exact hkn)⟩
      have hsp : (sp1 32 s.data.toList)[k]? = some x.data.toList := by rw [← HL.out, List.getElem?_map, hx]; rfl
      have c0 : wr.cell? ⟨w.heap.size, k, none⟩ = some (.string x) := (HK1.out.below hbr HK1.out.lt).c k _ (by rw [List.getElem?_toArray, List.getElem?_map, hx]; rfl)
      have hfl := filt_snoc (p := fun w : Bytes => decide (w ≠ [])) hsp
      have hwl : w.heap.size < wr.heap.size := Nat.lt_of_lt_of_le HK1.out.lt hbr.size
      by_cases hxe : x.data.toList = []
      · have he : (x.toList == []) = true := by rw [ByteArray.toList_eq, hxe]; rfl
        rw [show [x.data.toList].filter (fun w : Bytes => decide (w ≠ [])) = [] by simp [hxe], List.append_nil] at hfl
        have HO := Lib.hid (show Strs W1.heap.size _ (((sp1 32 s.data.toList).take (k + 1)).filter (fun w => decide (w ≠ []))) wr by rw [hfl]; exact hown.out)
        clear hown hx hsp hfl hxe
        go_wp2_with fail
        exact ⟨⟨k + 1, by simp, by omega, HO, hbr⟩, by simp only [intOf]; omega⟩
      · have he : (x.toList == []) = false := by rw [beq_eq_false_iff_ne, ByteArray.toList_eq]; exact hxe
        rw [show [x.data.toList].filter (fun w : Bytes => decide (w ≠ [])) = [x.data.toList] by simp [hxe]] at hfl
        have hfll : (((sp1 32 s.data.toList).take k).filter (fun w : Bytes => decide (w ≠ []))).length ≤ n := by
          have h1 := List.length_filter_le (fun w : Bytes => decide (w ≠ [])) ((sp1 32 s.data.toList).take k)
          rw [List.length_take] at h1
          omega
        obtain ⟨l, hl⟩ : ∃ l, ((sp1 32 s.data.toList).take k).filter (fun w : Bytes => decide (w ≠ [])) = l := ⟨_, rfl⟩
        rw [hl] at hfl hfll hown
        have HOW := hown
        have HFL := Lib.hid hfl
        clear hown hx hsp hfl hl hxe
        unfold Strs at HOW
        go_wp2_with (at_builtin; refine wpList_append_own _ rfl _ _ 44 rfl W1.heap.size ST i0 (.string ⟨#[]⟩) 1 16 tsl hi hz0 hz1 hz2 rfl (by decide) _ l.length _ rfl (HOW.out.alloc _) ⟨wr.heap.size, 0, none⟩ 1 1 [.string x] rfl rfl ?c1 ?c2 ?c3 ?c4 ?c5 ?_)
        case c1 => intro j u hj; match j, hj with
          | 0, hj => simp at hj; subst hj; simp [Addr.add]
          | n + 1, hj => simp at hj
        case c2 => intro u hu; simp at hu; subst hu; rfl
        case c3 => unfold maxLen; omega
        case c4 => omega
        case c5 => have := hbr.size; simp; omega
        intro v6 w6 hown6 hg6 _
        have hoX := HOW.out.alloc (.cells #[.string x] ST)
        have hbX : Below W1.heap.size W1 (wr.alloc (.cells #[.string x] ST)) := hbr.alloc hbr.size _
        have hb6 := hbX.grown hg6 hbX.size (fun k hk => (hoX.lt k hk).1)
        have HO : Hid (Strs W1.heap.size v6 (((sp1 32 s.data.toList).take (k + 1)).filter (fun w => decide (w ≠ []))) w6) := Lib.hid (by
          unfold Strs
          rw [HFL.out, List.length_append, List.map_append]
          exact hown6)
        clear hown6 hg6 hoX hbX
        go_wp2_with fail
        exact ⟨⟨k + 1, by simp, by omega, HO, hb6⟩, by simp only [intOf]; omega⟩
    · obtain rfl : k = n := by omega
      have hdec : decide ((k : Int) < (k : Int)) = false := by simp
      have hown := hown.out
      have hall : (sp1 32 s.data.toList).take k = sp1 32 s.data.toList := List.take_of_length_le (by rw [← HL.out, List.length_map, HN.out]; exact Nat.le_refl _)
      rw [hall] at hown
      clear hall
      go_wp2_with fail
      go_ret
      exact ⟨HB1.out.trans (hbr.mono HB1.out.size), _, rfl, own_mono hown HB1.out.size⟩
end Sc
end Go.Proofs.YtaaknnmnkgnbjaaDoor
