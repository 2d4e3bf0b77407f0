/- Script, the walk, 7: Options. -/
import Derived.Test.YtaaknnmnkgnbjaaDoorScL
set_option linter.unusedVariables false
namespace Go.Proofs.YtaaknnmnkgnbjaaDoor
open Go.RowKit
namespace Sc
open Bs Sm
abbrev OpT : Nat := 28
def inR (l : List Cmd) : Bytes := l.flatMap (fun c => if c.kind = 2 then c.bytes else [])
def tkR (l : List Cmd) : List Int := l.flatMap (fun c => if c.kind = 3 then c.list else [])
def coR (l : List Cmd) : List Int := l.flatMap (fun c => if c.kind = 4 then c.list else [])
def nR : List Cmd → Int → Int
  | [], n => n
  | c :: t, n => nR t (if c.kind = 1 then c.n else n)
theorem nR_snoc (x : Cmd) : ∀ (l : List Cmd) (n : Int), nR (l ++ [x]) n = if x.kind = 1 then x.n else nR l n
  | [], n => rfl
  | c :: t, n => by rw [List.cons_append]; show nR (t ++ [x]) _ = _; rw [nR_snoc x t]; rfl
theorem inR_snoc (x : Cmd) (l : List Cmd) : inR (l ++ [x]) = inR l ++ if x.kind = 2 then x.bytes else [] := by unfold inR; simp
theorem tkR_snoc (x : Cmd) (l : List Cmd) : tkR (l ++ [x]) = tkR l ++ if x.kind = 3 then x.list else [] := by unfold tkR; simp
theorem coR_snoc (x : Cmd) (l : List Cmd) : coR (l ++ [x]) = coR l ++ if x.kind = 4 then x.list else [] := by unfold coR; simp
theorem flat_le {α β : Type} {f : α → List β} {M : Nat} : ∀ (l : List α), (∀ c ∈ l, (f c).length ≤ M) → (l.flatMap f).length ≤ l.length * M
  | [], _ => by simp
  | c :: t, h => by
    have h1 := flat_le t (fun c hc => h c (List.mem_cons_of_mem _ hc))
    have h2 := h c (List.mem_cons_self ..)
    rw [List.flatMap_cons, List.length_append, List.length_cons, Nat.succ_mul]; omega
/-- Commands of which there are few, each of few parts. -/
def Mild (l : List Cmd) : Prop := l.length ≤ 100 ∧ ∀ c ∈ l, c.list.length ≤ 100000 ∧ c.bytes.length ≤ 100000
theorem set_size {w : World} {p : Addr} {v : Value} : (w.setCell p v).heap.size = w.heap.size := by simp [World.setCell]
theorem in_le {cs : List Cmd} (h : Mild cs) (k : Nat) : (inR (cs.take k)).length ≤ 10000000 := by
  have h1 := flat_le (f := fun c : Cmd => if c.kind = 2 then c.bytes else []) (M := 100000) (cs.take k) (fun c hc => by
    have := (h.2 c (List.mem_of_mem_take hc)).2
    by_cases hk : c.kind = 2 <;> simp [hk, this])
  have h2 : (cs.take k).length ≤ 100 := by rw [List.length_take]; have := h.1; omega
  unfold inR
  omega
theorem tk_le {cs : List Cmd} (h : Mild cs) (k : Nat) : (tkR (cs.take k)).length ≤ 10000000 := by
  have h1 := flat_le (f := fun c : Cmd => if c.kind = 3 then c.list else []) (M := 100000) (cs.take k) (fun c hc => by
    have := (h.2 c (List.mem_of_mem_take hc)).1
    by_cases hk : c.kind = 3 <;> simp [hk, this])
  have h2 : (cs.take k).length ≤ 100 := by rw [List.length_take]; have := h.1; omega
  unfold tkR
  omega
theorem co_le {cs : List Cmd} (h : Mild cs) (k : Nat) : (coR (cs.take k)).length ≤ 10000000 := by
  have h1 := flat_le (f := fun c : Cmd => if c.kind = 4 then c.list else []) (M := 100000) (cs.take k) (fun c hc => by
    have := (h.2 c (List.mem_of_mem_take hc)).1
    by_cases hk : c.kind = 4 <;> simp [hk, this])
  have h2 : (cs.take k).length ≤ 100 := by rw [List.length_take]; have := h.1; omega
  unfold coR
  omega
theorem cmd_at {w : World} {T B n c gg : Nat} {l : List (Cmd × Value × Value)} (h : w.ownsRow B T 5 (.slice (some ⟨gg, 0, none⟩) n c) l.length (flatM l)) (i : Nat) (x : Cmd × Value × Value) (hx : l[i]? = some x) :
    w.cell? ⟨gg, i * 5, none⟩ = some (.int .i64 (x.1.kind : Int)) ∧ w.cell? ⟨gg, i * 5 + 1, none⟩ = some (.int .i64 x.1.n) ∧ w.cell? ⟨gg, i * 5 + 2, none⟩ = some (.int .i64 x.1.at_) ∧ w.cell? ⟨gg, i * 5 + 3, none⟩ = some x.2.1 ∧ w.cell? ⟨gg, i * 5 + 4, none⟩ = some x.2.2 := by
  have hf : ∀ (l : List (Cmd × Value × Value)) (i : Nat) (p : Cmd × Value × Value), l[i]? = some p → ∀ j u, (cellsM p)[j]? = some u → (flatM l)[i * 5 + j]? = some u := by
    intro l
    induction l with
    | nil => intro i p h; simp at h
    | cons t l ih =>
      intro i p h j u hu
      have hj : j < (cellsM t).length := (List.getElem?_eq_some_iff.1 hu).1
      cases i with
      | zero =>
        simp at h; subst h
        unfold flatM; rw [List.flatMap_cons, Nat.zero_mul, Nat.zero_add, List.getElem?_append_left hj]; exact hu
      | succ i =>
        have ih := ih i p (by simpa using h) j u hu
        unfold flatM at ih ⊢
        have h4 : (cellsM t).length = 5 := rfl
        rw [List.flatMap_cons, List.getElem?_append_right (by rw [h4]; omega), h4, show (i + 1) * 5 + j - 5 = i * 5 + j by omega]
        exact ih
  have ha : ∀ k : Nat, (⟨gg, 0, none⟩ : Addr).add k = ⟨gg, k, none⟩ := fun k => by unfold Addr.add; split <;> simp_all
  have hh := fun j u hu => World.ownsRow.cells h (g := gg) rfl (i * 5 + j) u (hf l i x hx j u hu)
  simp only [ha] at hh
  exact ⟨hh 0 _ rfl, hh 1 _ rfl, hh 2 _ rfl, hh 3 _ rfl, hh 4 _ rfl⟩
set_option maxRecDepth 100000 in
set_option maxHeartbeats 3200000 in
theorem options_any {B : Nat} (v : Value) (cs : List Cmd) (w : World) (hl : Cmds CmT B v cs w) (hm : Mild cs) :
    Calls Tryd.prog 7 #[v] w (fun e w' => Below w.heap.size w w' ∧ ∃ io il ic ko kl kc co ll cc, e = .returned (.tuple #[.int .i64 (nR cs 60000), .agg #[.slice io il ic, .slice ko kl kc, .slice co ll cc, .int .i64 0]]) ∧
      Byts w.heap.size (.slice io il ic) (inR cs) w' ∧ Ints w.heap.size (.slice ko kl kc) (tkR cs) w' ∧ Ints w.heap.size (.slice co ll cc) (coR cs) w') := by
  obtain ⟨cl, hcl, hown, hfl⟩ := hl
  obtain ⟨ao, cap, rfl, hao⟩ := own_slice hown
  obtain ⟨n, hn⟩ : ∃ n, cl.length = n := ⟨_, rfl⟩
  rw [hn] at hao ⊢
  have HCL := Lib.hid hcl
  have HOW := Lib.hid hown
  have HFL := Lib.hid hfl
  have HN := Lib.hid hn
  have HM := Lib.hid hm
  clear hcl hown hfl hn hm
  obtain ⟨iU, hiU, hiU0, hiU1, hiU2⟩ := info_parts (show (Tryd.prog.info? U8).map (fun i => (i.zero, i.size, i.bytes)) = some (some (.int .u8 0), 1, 1) by kernel_rfl)
  have tliU : Tryd.prog.underlying 25 = some (.slice U8) := by kernel_rfl
  obtain ⟨iI, hiI, hiI0, hiI1, hiI2⟩ := info_parts (show (Tryd.prog.info? IT).map (fun i => (i.zero, i.size, i.bytes)) = some (some (.int .i64 0), 1, 8) by kernel_rfl)
  have tliI : Tryd.prog.underlying 26 = some (.slice IT) := by kernel_rfl
  go_enter Tryd.func7, Tryd.ntmps7
  go_wp2_with fail
  have hz0 := (Blk.made (T := OpT) (cs := #[.slice none 0 0, .slice none 0 0, .slice none 0 0, .int .i64 0]) w).alloc (.cells #[.slice none 0 0, .slice none 0 0, .slice none 0 0, .int .i64 0] OpT)
  have ho0 := Blk.made (T := OpT) (cs := #[.slice none 0 0, .slice none 0 0, .slice none 0 0, .int .i64 0]) (w.alloc (.cells #[.slice none 0 0, .slice none 0 0, .slice none 0 0, .int .i64 0] OpT))
  rw [show (w.alloc (.cells #[.slice none 0 0, .slice none 0 0, .slice none 0 0, .int .i64 0] OpT)).heap.size = w.heap.size + 1 by simp] at ho0
  have hb0 : Below w.heap.size w ((w.alloc (.cells #[.slice none 0 0, .slice none 0 0, .slice none 0 0, .int .i64 0] OpT)).alloc (.cells #[.slice none 0 0, .slice none 0 0, .slice none 0 0, .int .i64 0] OpT)) := ((Below.refl _ w).alloc (Nat.le_refl _) _).alloc (by simp) _
  have hs0 : w.heap.size + 2 ≤ ((w.alloc (.cells #[.slice none 0 0, .slice none 0 0, .slice none 0 0, .int .i64 0] OpT)).alloc (.cells #[.slice none 0 0, .slice none 0 0, .slice none 0 0, .int .i64 0] OpT)).heap.size := by simp
  obtain ⟨W1, hW1⟩ : ∃ W1, (w.alloc (.cells #[.slice none 0 0, .slice none 0 0, .slice none 0 0, .int .i64 0] OpT)).alloc (.cells #[.slice none 0 0, .slice none 0 0, .slice none 0 0, .int .i64 0] OpT) = W1 := ⟨_, rfl⟩
  rw [hW1] at hz0 ho0 hb0 hs0 ⊢
  have HZ0 := Lib.hid hz0
  have HO0 := Lib.hid ho0
  have HB0 := Lib.hid hb0
  have HS0 := Lib.hid hs0
  clear hW1 hz0 ho0 hb0 hs0
  go_loopw [4, 10] (fun s y wr => ∃ (k : Nat) (iv tv cv : Value), y = .int .i64 (k : Int) ∧ k ≤ n ∧ s = .int .i64 (nR (cs.take k) 60000) ∧ Hid (Blk OpT w.heap.size #[.slice none 0 0, .slice none 0 0, .slice none 0 0, .int .i64 0] wr) ∧ Hid (Blk OpT (w.heap.size + 1) #[iv, tv, cv, .int .i64 0] wr) ∧ Hid (Byts (w.heap.size + 2) iv (inR (cs.take k)) wr) ∧ Hid (Ints (w.heap.size + 2) tv (tkR (cs.take k)) wr) ∧ Hid (Ints (w.heap.size + 2) cv (coR (cs.take k)) wr) ∧ Hid (Apart tv cv) ∧ Hid (Below w.heap.size w wr) ∧ Hid (w.heap.size + 2 ≤ wr.heap.size)) (fun _ y _ => n - (intOf y).toNat)
  case atStart => exact ⟨0, _, _, _, rfl, Nat.zero_le _, by rw [List.take_zero]; rfl, HZ0, HO0, Lib.hid (by rw [List.take_zero]; exact World.ownsRow_nil _ _ _ _), Lib.hid (by rw [List.take_zero]; exact World.ownsRow_nil _ _ _ _), Lib.hid (by rw [List.take_zero]; exact World.ownsRow_nil _ _ _ _), Lib.hid (fun k h => by cases h), HB0, HS0⟩
  case round =>
    obtain ⟨k, iv, tv, cv, rfl, hk, rfl, hZ, hO, hI, hT, hC, hA, hbr, hsr⟩ := hrel
    by_cases hkn : k < n
    · have hdec : decide ((k : Int) < (n : Int)) = true := by simpa using hkn
      have hkw : IntKind.i64.wrap ((k : Int) + 1) = (k : Int) + 1 := IntWalk.i64_in _ (by have h1 := HM.out.1; rw [← HCL.out, List.length_map, HN.out] at h1; omega)
      obtain ⟨gb, rfl, -, hgb, hgc, -⟩ := hao (by omega)
      obtain ⟨x, hx⟩ : ∃ x, cl[k]? = some x := ⟨_, List.getElem?_eq_getElem (by rw [HN.out]; exact hkn)⟩
      have hcx : cs[k]? = some x.1 := by rw [← HCL.out, List.getElem?_map, hx]; rfl
      obtain ⟨c0, c1, c2, c3, c4⟩ := cmd_at (own_below HOW.out hbr.out) k x hx
      have hfx := HFL.out x (List.mem_of_getElem? hx)
      have htk := take_snoc hcx
      have hml := HM.out.2 x.1 (List.mem_of_getElem? hcx)
      have hkl : k ≤ 100 := by have h1 := HM.out.1; rw [← HCL.out, List.length_map, HN.out] at h1; omega
      obtain ⟨c, lv, bv⟩ := x
      dsimp only at c0 c1 c2 c3 c4 hfx htk hml
      have hLV := own_below hfx.1 hbr.out
      have hBV := own_below hfx.2 hbr.out
      obtain ⟨lo, lc, rfl, -⟩ := own_slice hLV
      obtain ⟨bo, bc, rfl, -⟩ := own_slice hBV
      have hnR := nR_snoc c (cs.take k) 60000
      have hinR := inR_snoc c (cs.take k)
      have htkR := tkR_snoc c (cs.take k)
      have hcoR := coR_snoc c (cs.take k)
      rw [← htk] at hnR hinR htkR hcoR
      have hli := in_le HM.out k
      have hlt := tk_le HM.out k
      have hlc := co_le HM.out k
      have HNR := Lib.hid hnR
      have HINR := Lib.hid hinR
      have HTKR := Lib.hid htkR
      have HCOR := Lib.hid hcoR
      obtain ⟨nk, hnk⟩ : ∃ z, nR (cs.take k) 60000 = z := ⟨_, rfl⟩
      have HNK := Lib.hid hnk
      rw [hnk]
      have hgb' := Nat.lt_of_lt_of_le hgb hbr.out.size
      clear hx hcx hfx htk hnR hinR htkR hcoR hnk
      go_upto_region 6 with fail
      have hX : Below wr.heap.size wr (wr.alloc (.cells #[.int .i64 (c.kind : Int), .int .i64 c.n, .int .i64 c.at_, .slice lo c.list.length lc, .slice bo c.bytes.length bc] CmT)) := (Below.refl _ _).alloc (Nat.le_refl _) _
      have hk5 := Blk.made (T := CmT) (cs := #[.int .i64 (c.kind : Int), .int .i64 c.n, .int .i64 c.at_, .slice lo c.list.length lc, .slice bo c.bytes.length bc]) wr
      obtain ⟨W5, hW5⟩ : ∃ W, wr.alloc (.cells #[.int .i64 (c.kind : Int), .int .i64 c.n, .int .i64 c.at_, .slice lo c.list.length lc, .slice bo c.bytes.length bc] CmT) = W := ⟨_, rfl⟩
      rw [hW5] at hX hk5 ⊢
      obtain ⟨KB, hKB⟩ : ∃ b, wr.heap.size = b := ⟨_, rfl⟩
      have hZ5 := hZ.out.below hX hZ.out.lt
      have hO5 := hO.out.below hX hO.out.lt
      have HI5 := Lib.hid (own_below hI.out hX)
      have HT5 := Lib.hid (own_below hT.out hX)
      have HC5 := Lib.hid (own_below hC.out hX)
      have HLV := Lib.hid (own_below hLV hX)
      have HBV := Lib.hid (own_below hBV hX)
      have hb5 := hbr.out.trans (hX.mono hbr.out.size)
      have hs5 := Nat.le_trans hsr.out hX.size
      rw [hKB] at hk5 ⊢
      have d0 := hk5.c 0 _ rfl
      have d1 := hk5.c 1 _ rfl
      have d2 := hk5.c 2 _ rfl
      have d3 := hk5.c 3 _ rfl
      have d4 := hk5.c 4 _ rfl
      have HZ5 := Lib.hid hZ5
      have HO5 := Lib.hid hO5
      have HB5 := Lib.hid hb5
      have HS5 := Lib.hid hs5
      clear hW5 hKB hX hk5 hI hT hC hLV hBV hb5 hZ5 hO5 hZ hO hbr hsr c0 c1 c2 c3 c4 hs5
      by_cases k1 : c.kind = 1
      · have q1 : ((c.kind : Int) == 1) = true := by rw [k1]; rfl
        have HI6 : Hid (Byts (w.heap.size + 2) iv (inR (cs.take (k + 1))) W5) := Lib.hid (by rw [HINR.out, if_neg (by omega), List.append_nil]; exact HI5.out)
        have HT6 : Hid (Ints (w.heap.size + 2) tv (tkR (cs.take (k + 1))) W5) := Lib.hid (by rw [HTKR.out, if_neg (by omega), List.append_nil]; exact HT5.out)
        have HC6 : Hid (Ints (w.heap.size + 2) cv (coR (cs.take (k + 1))) W5) := Lib.hid (by rw [HCOR.out, if_neg (by omega), List.append_nil]; exact HC5.out)
        have hn6 : c.n = nR (cs.take (k + 1)) 60000 := by rw [HNR.out, if_pos k1]
        rw [hn6] at d1
        have HN6 := Lib.hid hn6
        clear hn6
        go_wp2_with fail
        exact ⟨⟨k + 1, _, _, _, by simp, by omega, rfl, HZ5, HO5, HI6, HT6, HC6, hA, HB5, HS5⟩, by simp only [intOf]; omega⟩
      · have q1 : ((c.kind : Int) == 1) = false := by rw [beq_eq_false_iff_ne]; omega
        have hn6 : nk = nR (cs.take (k + 1)) 60000 := by rw [HNR.out, if_neg k1, HNK.out]
        rw [hn6]
        clear hn6 HNR HNK
        by_cases k2 : c.kind = 2
        · have q2 : ((c.kind : Int) == 2) = true := by rw [k2]; rfl
          have hd := HI5.out
          have hsc := HBV.out
          unfold Byts at hd hsc
          have o0 := HO5.out.c 0 _ rfl
          have of := HO5.out.fz
          have hone : ∀ u ∈ c.bytes.map byteV, u.oneCell' = true := fun u hu => by obtain ⟨y, _, rfl⟩ := List.mem_map.1 hu; rfl
          have HONE := Lib.hid hone
          clear hone
          go_wp2_with (at_builtin; refine wpList_join _ rfl _ _ 25 U8 rfl tliU iU (.int .u8 0) 1 1 hiU hiU0 hiU1 hiU2 rfl (by decide) hd rfl rfl hsc HONE.out ?c1 ?c2 ?c3 ?_)
          case c1 => unfold maxLen; omega
          case c2 => omega
          case c3 => exact HS5.out
          intro v6 w6 hown6 hg6 hnr
          obtain ⟨fo, fn, fc, rfl⟩ : ∃ a b c, v6 = .slice a b c := by obtain ⟨fo, fc, h, -⟩ := own_slice hown6; exact ⟨_, _, _, h⟩
          have hu6 := blk_grown_at HO5.out hg6 hd (by omega)
          have hz6 := blk_grown_at HZ5.out hg6 hd (by omega)
          have hb6 := HB5.out.grown hg6 HB5.out.size (fun k hk => by have := (hd.lt k hk).1; omega)
          have hs6 := Nat.le_trans HS5.out hg6.size
          have hk0 : w.heap.size + 1 < w.heap.size + 2 := by omega
          have r3 := own_grown HT5.out hg6 hd (by decide)
          have r4 := own_grown HC5.out hg6 hd (by decide)
          have HI6 : Hid (Byts (w.heap.size + 2) (.slice fo fn fc) (inR (cs.take (k + 1))) (w6.setCell ⟨w.heap.size + 1, 0, none⟩ (.slice fo fn fc))) := Lib.hid (by
            unfold Byts
            rw [HINR.out, if_pos k2, List.length_append, List.map_append]
            exact own_set_at hown6 hk0 0 (.slice fo fn fc))
          have HT6 : Hid (Ints (w.heap.size + 2) tv (tkR (cs.take (k + 1))) (w6.setCell ⟨w.heap.size + 1, 0, none⟩ (.slice fo fn fc))) := Lib.hid (by
            rw [HTKR.out, if_neg (by omega), List.append_nil]
            exact own_set_at r3 hk0 0 (.slice fo fn fc))
          have HC6 : Hid (Ints (w.heap.size + 2) cv (coR (cs.take (k + 1))) (w6.setCell ⟨w.heap.size + 1, 0, none⟩ (.slice fo fn fc))) := Lib.hid (by
            rw [HCOR.out, if_neg (by omega), List.append_nil]
            exact own_set_at r4 hk0 0 (.slice fo fn fc))
          have HO6 : Hid (Blk OpT (w.heap.size + 1) #[.slice fo fn fc, tv, cv, .int .i64 0] (w6.setCell ⟨w.heap.size + 1, 0, none⟩ (.slice fo fn fc))) := Lib.hid (hu6.set_ 0 (.slice fo fn fc) _ rfl)
          have HZ6 := Lib.hid (hz6.far (p := ⟨w.heap.size + 1, 0, none⟩) (show w.heap.size ≠ w.heap.size + 1 by omega) (.slice fo fn fc))
          have HB6 := Lib.hid (hb6.setCell (p := ⟨w.heap.size + 1, 0, none⟩) (by show w.heap.size ≤ w.heap.size + 1; omega) (.slice fo fn fc))
          have HS6 : Hid (w.heap.size + 2 ≤ (w6.setCell ⟨w.heap.size + 1, 0, none⟩ (.slice fo fn fc)).heap.size) := Lib.hid (by rw [set_size]; exact hs6)
          have y0 := hu6.c 0 _ rfl
          have yf := hu6.fz
          clear hd hsc hown6 hg6 hnr hu6 hz6 hb6 hs6 r3 r4 o0 of d0 d1 d2 d3 d4
          go_wp2_with fail
          exact ⟨⟨k + 1, _, _, _, by simp, by omega, rfl, HZ6, HO6, HI6, HT6, HC6, hA, HB6, HS6⟩, by simp only [intOf]; omega⟩
        · have q2 : ((c.kind : Int) == 2) = false := by rw [beq_eq_false_iff_ne]; omega
          by_cases k3 : c.kind = 3
          · have q3 : ((c.kind : Int) == 3) = true := by rw [k3]; rfl
            have hd := HT5.out
            have hsc := HLV.out
            unfold Ints at hd hsc
            have o1 := HO5.out.c 1 _ rfl
            have of := HO5.out.fz
            have hone : ∀ u ∈ c.list.map intV, u.oneCell' = true := fun u hu => by obtain ⟨y, _, rfl⟩ := List.mem_map.1 hu; rfl
            have HONE := Lib.hid hone
            clear hone
            go_wp2_with (at_builtin; refine wpList_join _ rfl _ _ 26 IT rfl tliI iI (.int .i64 0) 1 8 hiI hiI0 hiI1 hiI2 rfl (by decide) hd rfl rfl hsc HONE.out ?c1 ?c2 ?c3 ?_)
            case c1 => unfold maxLen; omega
            case c2 => omega
            case c3 => exact HS5.out
            intro v6 w6 hown6 hg6 hnr
            obtain ⟨fo, fn, fc, rfl⟩ : ∃ a b c, v6 = .slice a b c := by obtain ⟨fo, fc, h, -⟩ := own_slice hown6; exact ⟨_, _, _, h⟩
            have hu6 := blk_grown_at HO5.out hg6 hd (by omega)
            have hz6 := blk_grown_at HZ5.out hg6 hd (by omega)
            have hb6 := HB5.out.grown hg6 HB5.out.size (fun k hk => by have := (hd.lt k hk).1; omega)
            have hs6 := Nat.le_trans HS5.out hg6.size
            have hk0 : w.heap.size + 1 < w.heap.size + 2 := by omega
            have r2 := own_grown HI5.out hg6 hd (by decide)
            have r4 := World.ownsRow.kept HC5.out hg6 (hA.out.kept)
            have HT6 : Hid (Ints (w.heap.size + 2) (.slice fo fn fc) (tkR (cs.take (k + 1))) (w6.setCell ⟨w.heap.size + 1, 1, none⟩ (.slice fo fn fc))) := Lib.hid (by
              unfold Ints
              rw [HTKR.out, if_pos k3, List.length_append, List.map_append]
              exact own_set_at hown6 hk0 1 (.slice fo fn fc))
            have HI6 : Hid (Byts (w.heap.size + 2) iv (inR (cs.take (k + 1))) (w6.setCell ⟨w.heap.size + 1, 1, none⟩ (.slice fo fn fc))) := Lib.hid (by
              rw [HINR.out, if_neg (by omega), List.append_nil]
              exact own_set_at r2 hk0 1 (.slice fo fn fc))
            have HC6 : Hid (Ints (w.heap.size + 2) cv (coR (cs.take (k + 1))) (w6.setCell ⟨w.heap.size + 1, 1, none⟩ (.slice fo fn fc))) := Lib.hid (by
              rw [HCOR.out, if_neg (by omega), List.append_nil]
              exact own_set_at r4 hk0 1 (.slice fo fn fc))
            have HO6 : Hid (Blk OpT (w.heap.size + 1) #[iv, .slice fo fn fc, cv, .int .i64 0] (w6.setCell ⟨w.heap.size + 1, 1, none⟩ (.slice fo fn fc))) := Lib.hid (hu6.set_ 1 (.slice fo fn fc) _ rfl)
            have HZ6 := Lib.hid (hz6.far (p := ⟨w.heap.size + 1, 1, none⟩) (show w.heap.size ≠ w.heap.size + 1 by omega) (.slice fo fn fc))
            have HB6 := Lib.hid (hb6.setCell (p := ⟨w.heap.size + 1, 1, none⟩) (by show w.heap.size ≤ w.heap.size + 1; omega) (.slice fo fn fc))
            have HS6 : Hid (w.heap.size + 2 ≤ (w6.setCell ⟨w.heap.size + 1, 1, none⟩ (.slice fo fn fc)).heap.size) := Lib.hid (by rw [set_size]; exact hs6)
            have HA6 : Hid (Apart (.slice fo fn fc) cv) := Lib.hid (hA.out.near hnr (fun k hk => (World.ownsRow.lt HC5.out k hk).2))
            have y0 := hu6.c 1 _ rfl
            have yf := hu6.fz
            clear hd hsc hown6 hg6 hnr hu6 hz6 hb6 hs6 r2 r4 o1 of d0 d1 d2 d3 d4
            go_wp2_with fail
            exact ⟨⟨k + 1, _, _, _, by simp, by omega, rfl, HZ6, HO6, HI6, HT6, HC6, HA6, HB6, HS6⟩, by simp only [intOf]; omega⟩
          · have q3 : ((c.kind : Int) == 3) = false := by rw [beq_eq_false_iff_ne]; omega
            by_cases k4 : c.kind = 4
            · have q4 : ((c.kind : Int) == 4) = true := by rw [k4]; rfl
              have hd := HC5.out
              have hsc := HLV.out
              unfold Ints at hd hsc
              have o2 := HO5.out.c 2 _ rfl
              have of := HO5.out.fz
              have hone : ∀ u ∈ c.list.map intV, u.oneCell' = true := fun u hu => by obtain ⟨y, _, rfl⟩ := List.mem_map.1 hu; rfl
              have HONE := Lib.hid hone
              clear hone
              go_wp2_with (at_builtin; refine wpList_join _ rfl _ _ 26 IT rfl tliI iI (.int .i64 0) 1 8 hiI hiI0 hiI1 hiI2 rfl (by decide) hd rfl rfl hsc HONE.out ?c1 ?c2 ?c3 ?_)
              case c1 => unfold maxLen; omega
              case c2 => omega
              case c3 => exact HS5.out
              intro v6 w6 hown6 hg6 hnr
              obtain ⟨fo, fn, fc, rfl⟩ : ∃ a b c, v6 = .slice a b c := by obtain ⟨fo, fc, h, -⟩ := own_slice hown6; exact ⟨_, _, _, h⟩
              have hu6 := blk_grown_at HO5.out hg6 hd (by omega)
              have hz6 := blk_grown_at HZ5.out hg6 hd (by omega)
              have hb6 := HB5.out.grown hg6 HB5.out.size (fun k hk => by have := (hd.lt k hk).1; omega)
              have hs6 := Nat.le_trans HS5.out hg6.size
              have hk0 : w.heap.size + 1 < w.heap.size + 2 := by omega
              have r2 := own_grown HI5.out hg6 hd (by decide)
              have r3 := World.ownsRow.kept HT5.out hg6 (hA.out.symm.kept)
              have HC6 : Hid (Ints (w.heap.size + 2) (.slice fo fn fc) (coR (cs.take (k + 1))) (w6.setCell ⟨w.heap.size + 1, 2, none⟩ (.slice fo fn fc))) := Lib.hid (by
                unfold Ints
                rw [HCOR.out, if_pos k4, List.length_append, List.map_append]
                exact own_set_at hown6 hk0 2 (.slice fo fn fc))
              have HI6 : Hid (Byts (w.heap.size + 2) iv (inR (cs.take (k + 1))) (w6.setCell ⟨w.heap.size + 1, 2, none⟩ (.slice fo fn fc))) := Lib.hid (by
                rw [HINR.out, if_neg (by omega), List.append_nil]
                exact own_set_at r2 hk0 2 (.slice fo fn fc))
              have HT6 : Hid (Ints (w.heap.size + 2) tv (tkR (cs.take (k + 1))) (w6.setCell ⟨w.heap.size + 1, 2, none⟩ (.slice fo fn fc))) := Lib.hid (by
                rw [HTKR.out, if_neg (by omega), List.append_nil]
                exact own_set_at r3 hk0 2 (.slice fo fn fc))
              have HO6 : Hid (Blk OpT (w.heap.size + 1) #[iv, tv, .slice fo fn fc, .int .i64 0] (w6.setCell ⟨w.heap.size + 1, 2, none⟩ (.slice fo fn fc))) := Lib.hid (hu6.set_ 2 (.slice fo fn fc) _ rfl)
              have HZ6 := Lib.hid (hz6.far (p := ⟨w.heap.size + 1, 2, none⟩) (show w.heap.size ≠ w.heap.size + 1 by omega) (.slice fo fn fc))
              have HB6 := Lib.hid (hb6.setCell (p := ⟨w.heap.size + 1, 2, none⟩) (by show w.heap.size ≤ w.heap.size + 1; omega) (.slice fo fn fc))
              have HS6 : Hid (w.heap.size + 2 ≤ (w6.setCell ⟨w.heap.size + 1, 2, none⟩ (.slice fo fn fc)).heap.size) := Lib.hid (by rw [set_size]; exact hs6)
              have HA6 : Hid (Apart tv (.slice fo fn fc)) := Lib.hid (Apart.symm (hA.out.symm.near hnr (fun k hk => (World.ownsRow.lt HT5.out k hk).2)))
              have y0 := hu6.c 2 _ rfl
              have yf := hu6.fz
              clear hd hsc hown6 hg6 hnr hu6 hz6 hb6 hs6 r2 r3 o2 of d0 d1 d2 d3 d4
              go_wp2_with fail
              exact ⟨⟨k + 1, _, _, _, by simp, by omega, rfl, HZ6, HO6, HI6, HT6, HC6, HA6, HB6, HS6⟩, by simp only [intOf]; omega⟩
            · have q4 : ((c.kind : Int) == 4) = false := by rw [beq_eq_false_iff_ne]; omega
              have HI6 : Hid (Byts (w.heap.size + 2) iv (inR (cs.take (k + 1))) W5) := Lib.hid (by rw [HINR.out, if_neg (by omega), List.append_nil]; exact HI5.out)
              have HT6 : Hid (Ints (w.heap.size + 2) tv (tkR (cs.take (k + 1))) W5) := Lib.hid (by rw [HTKR.out, if_neg (by omega), List.append_nil]; exact HT5.out)
              have HC6 : Hid (Ints (w.heap.size + 2) cv (coR (cs.take (k + 1))) W5) := Lib.hid (by rw [HCOR.out, if_neg (by omega), List.append_nil]; exact HC5.out)
              go_wp2_with fail
              exact ⟨⟨k + 1, _, _, _, by simp, by omega, rfl, HZ5, HO5, HI6, HT6, HC6, hA, HB5, HS5⟩, by simp only [intOf]; omega⟩
    · obtain rfl : k = n := by omega
      have hdec : decide ((k : Int) < (k : Int)) = false := by simp
      have hall : cs.take k = cs := List.take_of_length_le (by rw [← HCL.out, List.length_map, HN.out]; exact Nat.le_refl _)
      rw [hall] at hI hT hC ⊢
      clear hall
      obtain ⟨io, ic, rfl, -⟩ := own_slice hI.out
      obtain ⟨ko, kc, rfl, -⟩ := own_slice hT.out
      obtain ⟨co, cc, rfl, -⟩ := own_slice hC.out
      obtain ⟨nk, hnk⟩ : ∃ z, nR cs 60000 = z := ⟨_, rfl⟩
      have HNK := Lib.hid hnk
      rw [hnk]
      clear hnk
      have o0 := hO.out.c 0 _ rfl
      have o1 := hO.out.c 1 _ rfl
      have o2 := hO.out.c 2 _ rfl
      have o3 := hO.out.c 3 _ rfl
      have z0 := hZ.out.c 0 _ rfl
      have z1 := hZ.out.c 1 _ rfl
      have z2 := hZ.out.c 2 _ rfl
      have z3 := hZ.out.c 3 _ rfl
      have zf := hZ.out.fz
      go_wp2_with fail
      go_region
      have hZ1 := (((hZ.out.set_ 0 (.slice io (inR cs).length ic) _ rfl).set_ 1 (.slice ko (tkR cs).length kc) _ rfl).set_ 2 (.slice co (coR cs).length cc) _ rfl).set_ 3 (.int .i64 0) _ rfl
      have hk0 : w.heap.size < w.heap.size + 2 := by omega
      have HI6 := Lib.hid (own_set_at (own_set_at (own_set_at (own_set_at hI.out hk0 0 (.slice io (inR cs).length ic)) hk0 1 (.slice ko (tkR cs).length kc)) hk0 2 (.slice co (coR cs).length cc)) hk0 3 (.int .i64 0))
      have HT6 := Lib.hid (own_set_at (own_set_at (own_set_at (own_set_at hT.out hk0 0 (.slice io (inR cs).length ic)) hk0 1 (.slice ko (tkR cs).length kc)) hk0 2 (.slice co (coR cs).length cc)) hk0 3 (.int .i64 0))
      have HC6 := Lib.hid (own_set_at (own_set_at (own_set_at (own_set_at hC.out hk0 0 (.slice io (inR cs).length ic)) hk0 1 (.slice ko (tkR cs).length kc)) hk0 2 (.slice co (coR cs).length cc)) hk0 3 (.int .i64 0))
      have HB6 := Lib.hid (((((hbr.out.setCell (p := ⟨w.heap.size, 0, none⟩) (Nat.le_refl _) (.slice io (inR cs).length ic)).setCell (p := ⟨w.heap.size, 1, none⟩) (Nat.le_refl _) (.slice ko (tkR cs).length kc)).setCell (p := ⟨w.heap.size, 2, none⟩) (Nat.le_refl _) (.slice co (coR cs).length cc)).setCell (p := ⟨w.heap.size, 3, none⟩) (Nat.le_refl _) (.int .i64 0)).drew)
      obtain ⟨V, hV⟩ : ∃ V, ((((wr.setCell ⟨w.heap.size, 0, none⟩ (.slice io (inR cs).length ic)).setCell ⟨w.heap.size, 1, none⟩ (.slice ko (tkR cs).length kc)).setCell ⟨w.heap.size, 2, none⟩ (.slice co (coR cs).length cc)).setCell ⟨w.heap.size, 3, none⟩ (.int .i64 0)).drew = V := ⟨_, rfl⟩
      have HZ7 : Hid (Blk OpT w.heap.size #[.slice io (inR cs).length ic, .slice ko (tkR cs).length kc, .slice co (coR cs).length cc, .int .i64 0] V) := Lib.hid (by rw [← hV]; exact hZ1)
      have HI7 : Hid (Byts (w.heap.size + 2) (.slice io (inR cs).length ic) (inR cs) V) := Lib.hid (by rw [← hV]; exact HI6.out)
      have HT7 : Hid (Ints (w.heap.size + 2) (.slice ko (tkR cs).length kc) (tkR cs) V) := Lib.hid (by rw [← hV]; exact HT6.out)
      have HC7 : Hid (Ints (w.heap.size + 2) (.slice co (coR cs).length cc) (coR cs) V) := Lib.hid (by rw [← hV]; exact HC6.out)
      rw [hV] at HB6 ⊢
      clear hZ1 hV HI6 HT6 HC6 z0 z1 z2 z3 zf o0 o1 o2 o3
      have y0 := HZ7.out.c 0 _ rfl
      have y1 := HZ7.out.c 1 _ rfl
      have y2 := HZ7.out.c 2 _ rfl
      have y3 := HZ7.out.c 3 _ rfl
      go_wp2_with fail
      refine bodyPost_ret (v := .tuple #[.int .i64 nk, .agg #[.slice io (inR cs).length ic, .slice ko (tkR cs).length kc, .slice co (coR cs).length cc, .int .i64 0]]) (by simp [results, Tryd.results7, go_sem, y0, y1, y2, y3]) rfl ?_
      rw [← HNK.out]
      exact ⟨HB6.out, _, _, _, _, _, _, _, _, _, rfl, own_mono HI7.out (by omega), own_mono HT7.out (by omega), own_mono HC7.out (by omega)⟩
end Sc
end Go.Proofs.YtaaknnmnkgnbjaaDoor
