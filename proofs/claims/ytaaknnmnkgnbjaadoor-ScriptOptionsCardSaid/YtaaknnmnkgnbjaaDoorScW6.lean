/- Script, the walk, 6: Parse. -/
import Derived.Test.YtaaknnmnkgnbjaaDoorScW5
set_option linter.unusedVariables false
namespace Go.Proofs.YtaaknnmnkgnbjaaDoor
open Go.RowKit
namespace Sc
open Bs Sm
theorem below_drewN {w : World} (q : Nat) : Below w.heap.size w (w.drewN q) := ⟨rfl, rfl, rfl, Nat.le_refl _, fun _ _ => rfl⟩
theorem words_len (s : Bytes) : (wordsR s).length ≤ s.length + 1 := by
  unfold wordsR
  have h1 := List.length_filter_le (fun w : Bytes => decide (w ≠ [])) (sp1 32 s)
  rw [sp1_len] at h1
  have h2 : s.count 32 ≤ s.length := List.count_le_length
  omega
theorem words_mem {s x : Bytes} (h : x ∈ wordsR s) : x ≠ [] ∧ x.length ≤ s.length := by
  unfold wordsR at h
  obtain ⟨h1, h2⟩ := List.mem_filter.1 h
  exact ⟨by simpa using h2, sp1_le 32 s x h1⟩
theorem ahead_le (s : Bytes) : (aheadR s).length ≤ s.length := by
  unfold aheadR Lib.cut
  split
  · rw [List.length_take]; omega
  · exact Nat.le_refl _
def cellsM (x : Cmd × Value × Value) : List Value := [.int .i64 (x.1.kind : Int), .int .i64 x.1.n, .int .i64 x.1.at_, x.2.1, x.2.2]
def flatM (l : List (Cmd × Value × Value)) : List Value := l.flatMap cellsM
theorem flatM_snoc (l : List (Cmd × Value × Value)) (x : Cmd × Value × Value) : flatM (l ++ [x]) = flatM l ++ cellsM x := by unfold flatM; simp
/-- Commands in a row of one's own. -/
def Cmds (T B : Nat) (v : Value) (cs : List Cmd) (w : World) : Prop :=
  ∃ cl : List (Cmd × Value × Value), cl.map (·.1) = cs ∧ w.ownsRow B T 5 v cl.length (flatM cl) ∧ ∀ x ∈ cl, Ints B x.2.1 x.1.list w ∧ Byts B x.2.2 x.1.bytes w
theorem Cmds.below {T B : Nat} {v : Value} {cs : List Cmd} {w w' : World} (h : Cmds T B v cs w) (hb : Below w.heap.size w w') : Cmds T B v cs w' := by
  obtain ⟨cl, h1, h2, h3⟩ := h
  exact ⟨cl, h1, own_below h2 hb, fun x hx => ⟨own_below (h3 x hx).1 hb, own_below (h3 x hx).2 hb⟩⟩
theorem Cmds.mono {T B B' : Nat} {v : Value} {cs : List Cmd} {w : World} (h : Cmds T B v cs w) (hb : B' ≤ B) : Cmds T B' v cs w := by
  obtain ⟨cl, h1, h2, h3⟩ := h
  exact ⟨cl, h1, own_mono h2 hb, fun x hx => ⟨own_mono (h3 x hx).1 hb, own_mono (h3 x hx).2 hb⟩⟩
/-- What Parse hands back. -/
def Parsed (x : Except (Nat × Int) (List Cmd)) (w : World) (e : Ending) (w' : World) : Prop :=
  Below w.heap.size w w' ∧ match x with
  | .error (i, n) => e = .returned (.tuple #[.slice none 0 0, .int .i64 (i : Int), .int .i64 n]) ∧ n ≠ 0
  | .ok cs => ∃ v, e = .returned (.tuple #[v, .int .i64 0, .int .i64 0]) ∧ Cmds CmT w.heap.size v cs w'
def glueC (acc : List Cmd) (x : Except (Nat × Int) (List Cmd)) : Except (Nat × Int) (List Cmd) := match x with
  | .error e => .error e
  | .ok cs => .ok (acc ++ cs)
theorem cells5 (W : World) (T : TypeId) (v0 v1 v2 v3 v4 : Value) : ∀ j u, [v0, v1, v2, v3, v4][j]? = some u → (W.alloc (.cells #[v0, v1, v2, v3, v4] T)).cell? ((⟨W.heap.size, 0, none⟩ : Addr).add j) = some u := by
  intro j u hj
  match j, hj with
  | 0, hj => simp at hj; subst hj; simp [Addr.add]
  | 1, hj => simp at hj; subst hj; simp [Addr.add]
  | 2, hj => simp at hj; subst hj; simp [Addr.add]
  | 3, hj => simp at hj; subst hj; simp [Addr.add]
  | 4, hj => simp at hj; subst hj; simp [Addr.add]
  | n + 5, hj => simp at hj
set_option maxRecDepth 100000 in
set_option maxHeartbeats 800000 in
theorem parse_big (s : ByteArray) (w : World) (hbig : 65536 < s.size) : Calls Tryd.prog 10 #[.string s] w (Parsed (parseR s.data.toList) w) := by
  have hr : parseR s.data.toList = .error (0, 2) := by unfold parseR; rw [if_pos (show 65536 < s.data.toList.length from hbig)]
  rw [hr]
  have hdec : decide ((65536 : Int) < (s.size : Int)) = true := decide_eq_true (by omega)
  clear hr
  go_enter Tryd.func10, Tryd.ntmps10
  go_wp2_with fail
  go_ret3
  exact ⟨Below.refl _ _, rfl, by decide⟩
set_option maxRecDepth 100000 in
set_option maxHeartbeats 3200000 in
theorem parse_small (s : ByteArray) (w : World) (hbig : ¬ 65536 < s.size) (hev : ErrVar w) (hp : Pow10 w) (hm : MaxV w) : Calls Tryd.prog 10 #[.string s] w (Parsed (parseR s.data.toList) w) := by
  have hr : parseR s.data.toList = linesR (sp1 10 s.data.toList) 0 := by unfold parseR; rw [if_neg (show ¬ 65536 < s.data.toList.length from hbig)]
  rw [hr]
  have hdec : decide ((65536 : Int) < (s.size : Int)) = false := decide_eq_false (by omega)
  obtain ⟨E, hE⟩ : ∃ E, linesR (sp1 10 s.data.toList) 0 = E := ⟨_, rfl⟩
  rw [hE]
  obtain ⟨i0, hi, hz0, hz1, hz2⟩ := info_parts (show (Tryd.prog.info? CmT).map (fun i => (i.zero, i.size, i.bytes)) = some (some (.agg #[.int .i64 0, .int .i64 0, .int .i64 0, .slice none 0 0, .slice none 0 0]), 5, 72) by kernel_rfl)
  have tsl : Tryd.prog.underlying 31 = some (.slice CmT) := by kernel_rfl
  obtain ⟨m, hmc⟩ := hm
  obtain ⟨L, hLe⟩ : ∃ L, Lib.splitB ⟨#[10]⟩ 0 (Lib.countB s ⟨#[10]⟩) s = L := ⟨_, rfl⟩
  have hL : L.map (·.data.toList) = sp1 10 s.data.toList := by
    rw [← hLe, Lib.splitB_data, ← split_sp1]; rfl
  have hlen : Lib.countB s ⟨#[10]⟩ + 1 = L.length := by rw [← hLe]; exact (Lib.splitB_all ⟨#[10]⟩ (by decide) 0 _ s rfl).symm
  have hl2 : L.length ≤ 65537 := by
    have h1 : L.length = (sp1 10 s.data.toList).length := by rw [← hL, List.length_map]
    rw [h1, sp1_len]
    have h2 : s.data.toList.count 10 ≤ s.data.toList.length := List.count_le_length
    have h3 : s.data.toList.length = s.size := rfl
    omega
  have hS := Tryd.strings_Split s ⟨#[10]⟩ m w (by omega) hmc (by decide)
  rw [hLe, hlen] at hS
  obtain ⟨n, hn⟩ : ∃ n, L.length = n := ⟨_, rfl⟩
  rw [hn] at hS hl2
  have HS := Lib.hid hS
  have HL := Lib.hid hL
  have HN := Lib.hid hn
  have HEV := Lib.hid hev
  have HP := Lib.hid hp
  have HM := Lib.hid (show MaxV w from ⟨m, hmc⟩)
  have HSS := Lib.hid (show s.size ≤ 65536 by omega)
  have HE0 : Hid (glueC [] (linesR ((sp1 10 s.data.toList).drop 0) 0) = E) := Lib.hid (by rw [List.drop_zero, hE]; cases E <;> rfl)
  clear hS hL hLe hlen hn hev hp hmc hE hr
  go_enter Tryd.func10, Tryd.ntmps10
  go_wp2_with fail
  refine HS.out.mono ?_; rintro e w1 ⟨rfl, hw1⟩
  go_wp2_with fail
  have hk1 := Blk.made (T := ST) (cs := (L.map Value.string).toArray) w
  have hb1 : Below w.heap.size w (w.alloc (.cells (L.map Value.string).toArray ST)) := (Below.refl _ w).alloc (Nat.le_refl _) _
  obtain ⟨W1, hW1⟩ : ∃ W1, w.alloc (.cells (L.map Value.string).toArray ST) = W1 := ⟨_, rfl⟩
  rw [hW1] at hk1 hb1 ⊢
  have HK1 := Lib.hid hk1
  have HB1 := Lib.hid hb1
  clear hW1 hk1 hb1
  go_loopw [5, 17] (fun v y wr => ∃ (k : Nat) (acc : List Cmd), y = .int .i64 (k : Int) ∧ k ≤ n ∧ acc.length ≤ k ∧ Hid (glueC acc (linesR ((sp1 10 s.data.toList).drop k) k) = E) ∧ Hid (Cmds CmT W1.heap.size v acc wr) ∧ Below W1.heap.size W1 wr) (fun _ y _ => n - (intOf y).toNat)
  case atStart => exact ⟨0, [], rfl, Nat.zero_le _, Nat.le_refl _, HE0, Lib.hid ⟨[], rfl, World.ownsRow_nil _ _ _ _, fun x hx => by cases hx⟩, Below.refl _ _⟩
  case round =>
    obtain ⟨k, acc, rfl, hk, hacc, hq, hown, hbr⟩ := hrel
    by_cases hkn : k < n
    · have hdec : decide ((k : Int) < (n : Int)) = true := by simpa using hkn
      have hkw : IntKind.i64.wrap ((k : Int) + 1) = (k : Int) + 1 := IntWalk.i64_in _ (by omega)
      obtain ⟨x, hx⟩ : ∃ x, L[k]? = some x := ⟨_, List.getElem?_eq_getElem (by rw [HN.out]; exact hkn)⟩
      have hsp : (sp1 10 s.data.toList)[k]? = some x.data.toList := by rw [← HL.out, List.getElem?_map, hx]; rfl
      have c0 : wr.cell? ⟨w.heap.size, k, none⟩ = some (.string x) := (HK1.out.below hbr HK1.out.lt).c k _ (by rw [List.getElem?_toArray, List.getElem?_map, hx]; rfl)
      have hxl : x.size ≤ 65536 := by
        have h1 := sp1_le 10 s.data.toList _ (List.mem_of_getElem? hsp)
        have h2 : x.data.toList.length = x.size := rfl
        have h3 : s.data.toList.length = s.size := rfl
        have := HSS.out
        omega
      have hwl : w.heap.size < wr.heap.size := Nat.lt_of_lt_of_le HK1.out.lt hbr.size
      have hbw := HB1.out.trans (hbr.mono HB1.out.size)
      obtain ⟨mm, hmm⟩ := HM.out.below hbw
      have hcut := Tryd.strings_Cut x ⟨#[35]⟩ mm wr (by omega) hmm
      obtain ⟨A, hA⟩ : ∃ A : ByteArray, (⟨(aheadR x.data.toList).toArray⟩ : ByteArray) = A := ⟨_, rfl⟩
      have hAl : A.data.toList = aheadR x.data.toList := by rw [← hA]
      have hAs : A.size ≤ 65536 := by
        have h1 := ahead_le x.data.toList
        rw [← hAl] at h1
        have h2 : A.data.toList.length = A.size := rfl
        have h3 : x.data.toList.length = x.size := rfl
        omega
      have hcut2 : Calls Tryd.prog 15 #[.string x, .string ⟨#[35]⟩] wr (fun e w' => ∃ (r : ByteArray) (b : Bool) (q : Nat), e = .returned (.tuple #[.string A, .string r, .bool b]) ∧ w' = wr.drewN q) :=
        hcut.mono fun e w' ⟨h1, q, h2⟩ => ⟨_, _, q, by rw [← hA]; exact h1, h2⟩
      have HCUT := Lib.hid hcut2
      have hq := hq.out
      obtain ⟨hkl, hkg⟩ := List.getElem?_eq_some_iff.1 hsp
      rw [List.drop_eq_getElem_cons hkl, hkg, lines_cons, ← hAl] at hq
      have HQ := Lib.hid hq
      have HAL := Lib.hid hAl
      clear hx hsp hxl hmm hcut hA hAl hcut2 hq hkl hkg
      go_wp2_with fail
      refine HCUT.out.mono ?_; rintro e w2 ⟨r, b, q, rfl, hw2⟩
      have hb2 : Below wr.heap.size wr w2 := by rw [hw2]; exact below_drewN q
      clear hw2
      have hb2w := hbw.trans (hb2.mono hbw.size)
      go_wp2_with fail
      refine (split_any A w2 hAs (HM.out.below hb2w)).mono ?_; rintro e w3 ⟨hb3, v, rfl, hst⟩
      have hb3w := hb2w.trans (hb3.mono hb2w.size)
      have hb23 := hb2.trans (hb3.mono hb2.size)
      have hbr3 := hbr.trans (hb23.mono hbr.size)
      have HOW3 := Lib.hid (hown.out.below hb23)
      rw [HAL.out] at hst
      obtain ⟨ws, hws⟩ : ∃ ws, wordsR (aheadR x.data.toList) = ws := ⟨_, rfl⟩
      have hwm : ∀ y ∈ ws, y ≠ [] ∧ y.length ≤ 65536 := fun y hy => by
        rw [← hws, ← HAL.out] at hy
        obtain ⟨h1, h2⟩ := words_mem hy
        have h3 : A.data.toList.length = A.size := rfl
        exact ⟨h1, by omega⟩
      have hwl2 : ws.length ≤ 65537 := by
        have h1 := words_len (aheadR x.data.toList)
        rw [hws, ← HAL.out] at h1
        have h3 : A.data.toList.length = A.size := rfl
        omega
      have hq := HQ.out
      rw [HAL.out, hws] at hq
      rw [hws] at hst
      have HST := Lib.hid (StAt.of hst)
      unfold Strs at hst
      obtain ⟨so, sc, rfl, -⟩ := own_slice hst
      clear hws hst HQ hb2 hb3 hb23 hbr hown
      cases hwc : ws with
      | nil =>
        subst hwc
        have HQ : Hid (glueC acc (linesR ((sp1 10 s.data.toList).drop (k + 1)) (k + 1)) = E) := Lib.hid hq
        clear hq
        go_wp2_with fail
        exact ⟨⟨k + 1, acc, by simp, by omega, by omega, HQ, HOW3, hbr3⟩, by simp only [intOf]; omega⟩
      | cons w0 args =>
        subst hwc
        have HQ := Lib.hid hq
        have hne : (((args.length : Int) + 1) == 0) = false := by rw [beq_eq_false_iff_ne]; omega
        simp only [List.length_cons] at HST ⊢
        clear hq
        go_wp2_with fail
        refine (read_any _ w0 args w3 HST.out hwm (by simp only [List.length_cons] at hwl2; omega) (HEV.out.below hb3w) (HP.out.below hb3w)).mono ?_; rintro e w4 ⟨hb4, hm4⟩
        have hb4w := hb3w.trans (hb4.mono hb3w.size)
        have hbr4 := hbr3.trans (hb4.mono hbr3.size)
        have HOW4 := Lib.hid (HOW3.out.below hb4)
        cases hrd : readW (kindF 8 w0) args with
        | error er =>
          rw [hrd] at hm4
          obtain ⟨rfl, her⟩ := hm4
          have hE : E = .error (k, er) := by have h := HQ.out; (try dsimp only at h); rw [hrd] at h; exact h.symm
          have HE := Lib.hid hE
          have herb : (er != 0) = true := by simpa using her
          clear hE hrd HQ
          go_wp2_with fail
          go_ret3
          rw [HE.out]
          exact ⟨hb4w.alloc hb4w.size _, rfl, her⟩
        | ok c =>
          rw [hrd] at hm4
          obtain ⟨lo, ln, lc, bo, bn, bc, rfl, hI, hB⟩ := hm4
          have HQ2 : Hid (glueC (acc ++ [c]) (linesR ((sp1 10 s.data.toList).drop (k + 1)) (k + 1)) = E) := Lib.hid (by
            have h := HQ.out
            (try dsimp only at h)
            rw [hrd] at h
            rw [← h]
            cases linesR ((sp1 10 s.data.toList).drop (k + 1)) (k + 1) with
            | error z => rfl
            | ok ds => simp [glueC])
          have hle3 : W1.heap.size ≤ w3.heap.size := hbr3.size
          have HI := Lib.hid (own_mono hI hle3)
          have HB := Lib.hid (own_mono hB hle3)
          obtain ⟨cl, hcl, hownC, hfl⟩ := HOW4.out
          have hcll : cl.length ≤ k := by
            have h := congrArg List.length hcl
            rw [List.length_map] at h; omega
          have HCL := Lib.hid hcl
          have HOC := Lib.hid hownC
          have HFL := Lib.hid hfl
          obtain ⟨ck, hck⟩ : ∃ z : Int, (c.kind : Int) = z := ⟨_, rfl⟩
          obtain ⟨cn, hcn⟩ : ∃ z : Int, c.n = z := ⟨_, rfl⟩
          obtain ⟨ca, hca⟩ : ∃ z : Int, c.at_ = z := ⟨_, rfl⟩
          rw [hck, hcn, hca]
          have HCV : Hid (cellsM (c, .slice lo ln lc, .slice bo bn bc) = [.int .i64 ck, .int .i64 cn, .int .i64 ca, .slice lo ln lc, .slice bo bn bc]) := Lib.hid (by unfold cellsM; rw [hck, hcn, hca])
          clear hrd HQ hI hB hcl hownC hfl HOW3 HOW4 hck hcn hca
          go_upto_region 13 with fail
          have hX5 : Below w4.heap.size w4 (w4.alloc (.cells #[.int .i64 ck, .int .i64 cn, .int .i64 ca, .slice lo ln lc, .slice bo bn bc] CmT)) := (Below.refl _ _).alloc (Nat.le_refl _) _
          have hk5 := Blk.made (T := CmT) (cs := #[.int .i64 ck, .int .i64 cn, .int .i64 ca, .slice lo ln lc, .slice bo bn bc]) w4
          obtain ⟨W5, hW5⟩ : ∃ W, w4.alloc (.cells #[.int .i64 ck, .int .i64 cn, .int .i64 ca, .slice lo ln lc, .slice bo bn bc] CmT) = W := ⟨_, rfl⟩
          rw [hW5] at hX5 hk5 ⊢
          obtain ⟨KB, hKB⟩ : ∃ b, w4.heap.size = b := ⟨_, rfl⟩
          have HX5 := Lib.hid hX5
          rw [hKB] at hk5 ⊢
          have d0 := hk5.c 0 _ rfl
          have d1 := hk5.c 1 _ rfl
          have d2 := hk5.c 2 _ rfl
          have d3 := hk5.c 3 _ rfl
          have d4 := hk5.c 4 _ rfl
          have hbr5 := hbr4.trans (hX5.mono hbr4.size)
          have HOC5 := Lib.hid (own_below HOC.out hX5)
          have HFL5 : Hid (∀ y ∈ cl, Ints W1.heap.size y.2.1 y.1.list W5 ∧ Byts W1.heap.size y.2.2 y.1.bytes W5) := Lib.hid (fun y hy => ⟨own_below (HFL.out y hy).1 hX5, own_below (HFL.out y hy).2 hX5⟩)
          have HI5 := Lib.hid (own_below HI.out hX5)
          have HB5 := Lib.hid (own_below HB.out hX5)
          clear hW5 hKB hX5 hk5 HOC HFL HI HB
          go_wp2_with (at_builtin; refine wpList_append_own _ rfl _ _ 31 rfl W1.heap.size CmT i0 (.agg #[.int .i64 0, .int .i64 0, .int .i64 0, .slice none 0 0, .slice none 0 0]) 5 72 tsl hi hz0 hz1 hz2 rfl (by decide) _ cl.length _ rfl (HOC5.out.alloc _) ⟨W5.heap.size, 0, none⟩ 1 1 [.int .i64 ck, .int .i64 cn, .int .i64 ca, .slice lo ln lc, .slice bo bn bc] rfl rfl ?c1 ?c2 ?c3 ?c4 ?c5 ?_)
          case c1 => have := cells5 W5 CmT (.int .i64 ck) (.int .i64 cn) (.int .i64 ca) (.slice lo ln lc) (.slice bo bn bc); simpa using this
          case c2 => intro u hu; simp at hu; rcases hu with rfl | rfl | rfl | rfl | rfl <;> rfl
          case c3 => unfold maxLen; omega
          case c4 => omega
          case c5 => have := hbr5.size; simp; omega
          intro v6 w6 hown6 hg6 _
          have hoX := HOC5.out.alloc (.cells #[.int .i64 ck, .int .i64 cn, .int .i64 ca, .slice lo ln lc, .slice bo bn bc] CmT)
          have hbX : Below W1.heap.size W1 (W5.alloc (.cells #[.int .i64 ck, .int .i64 cn, .int .i64 ca, .slice lo ln lc, .slice bo bn bc] CmT)) := hbr5.alloc hbr5.size _
          have hX4 : Below W5.heap.size W5 (W5.alloc (.cells #[.int .i64 ck, .int .i64 cn, .int .i64 ca, .slice lo ln lc, .slice bo bn bc] CmT)) := (Below.refl _ _).alloc (Nat.le_refl _) _
          have hb6 := hbX.grown hg6 hbX.size (fun k hk => (hoX.lt k hk).1)
          have HO : Hid (Cmds CmT W1.heap.size v6 (acc ++ [c]) w6) := Lib.hid ⟨cl ++ [(c, .slice lo ln lc, .slice bo bn bc)], by simp [HCL.out], by rw [flatM_snoc, HCV.out, List.length_append]; exact hown6, fun y hy => by
            rcases List.mem_append.1 hy with hy | hy
            · exact ⟨own_grown (own_below (HFL5.out y hy).1 hX4) hg6 hoX (by decide), own_grown (own_below (HFL5.out y hy).2 hX4) hg6 hoX (by decide)⟩
            · obtain rfl := List.mem_singleton.1 hy
              exact ⟨own_grown (own_below HI5.out hX4) hg6 hoX (by decide), own_grown (own_below HB5.out hX4) hg6 hoX (by decide)⟩⟩
          clear hown6 hg6 hoX hbX hX4 d0 d1 d2 d3 d4
          go_wp2_with fail
          exact ⟨⟨k + 1, _, by simp, by omega, by simp; omega, HQ2, HO, hb6⟩, by simp only [intOf]; omega⟩
    · obtain rfl : k = n := by omega
      have hdec : decide ((k : Int) < (k : Int)) = false := by simp
      have hE : E = .ok acc := by
        rw [← hq.out, List.drop_eq_nil_of_le (by rw [← HL.out, List.length_map, HN.out]; exact Nat.le_refl _)]
        show glueC acc (.ok []) = _
        unfold glueC; simp
      have HE := Lib.hid hE
      have HOW := Lib.hid (hown.out.mono HB1.out.size)
      clear hE hq HE0
      go_wp2_with fail
      go_ret3
      rw [HE.out]
      exact ⟨HB1.out.trans (hbr.mono HB1.out.size), _, rfl, HOW.out⟩
theorem parse_any (s : ByteArray) (w : World) (hev : ErrVar w) (hp : Pow10 w) (hm : MaxV w) : Calls Tryd.prog 10 #[.string s] w (Parsed (parseR s.data.toList) w) := by
  by_cases h : 65536 < s.size
  · exact parse_big s w h
  · exact parse_small s w h hev hp hm
end Sc
end Go.Proofs.YtaaknnmnkgnbjaaDoor
