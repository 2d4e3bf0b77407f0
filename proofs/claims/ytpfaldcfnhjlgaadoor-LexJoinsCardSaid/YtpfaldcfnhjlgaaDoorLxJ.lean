/- LexJoins: the walk. -/
import Derived.Test.YtpfaldcfnhjlgaaDoorLxSh
import Derived.RegionTactic
set_option linter.unusedVariables false
namespace Go.Proofs.YtpfaldcfnhjlgaaDoor
open Go.RowKit
namespace Lx
def joined (a b : ByteArray) : ByteArray := ⟨(a.data.toList ++ 32 :: b.data.toList).toArray⟩
theorem join_eq (a b : ByteArray) : a ++ ⟨#[32]⟩ ++ b = joined a b := by
  apply ByteArray.ext; apply Array.toList_inj.1
  simp [joined, ByteArray.data_append]
theorem joined_size (a b : ByteArray) : (joined a b).size = a.size + (b.size + 1) := by
  show (a.data.toList ++ 32 :: b.data.toList).length = _
  rw [List.length_append, List.length_cons]; rfl
set_option maxRecDepth 100000 in
set_option maxHeartbeats 1600000 in
theorem joins_err (a b : ByteArray) (w : World) (hv : ErrVar w) (p : Nat) (n : Int) (hx : allR (shortB a 1000).data.toList = .error (p, n)) :
    Calls Tryd.prog 3 #[.string a, .string b] w (Back (.bool true) w) := by
  have hn := (allR_err _ _ _ hx).1
  have hnb : (n != 0) = true := by simpa using hn
  obtain ⟨A1, hA1⟩ : ∃ A1, shortB a 1000 = A1 := ⟨_, rfl⟩
  obtain ⟨B1, hB1⟩ : ∃ B1, shortB b 1000 = B1 := ⟨_, rfl⟩
  have hla := shortB_le a 1000
  have hlb := shortB_le b 1000
  have SA := fun v : World => short_any a 1000 v
  have SB := fun v : World => short_any b 1000 v
  rw [hA1] at hx hla SA
  rw [hB1] at hlb SB
  have hAll := fun (v : World) (h : ErrVar v) => All_any A1 v (by omega) h
  rw [hx] at hAll
  have HA := Lib.hid hAll
  have HB := Lib.hid (fun (v : World) (h : ErrVar v) => All_any B1 v (by omega) h)
  have HV := Lib.hid hv
  have SA := Lib.hid SA
  have SB := Lib.hid SB
  clear hv hx hn hA1 hB1 hAll hla hlb
  go_enter Tryd.func3, Tryd.ntmps3
  go_wp2_with fail
  refine (awake_any _ HV.out).mono ?_; rintro e w1 ⟨rfl, hb1⟩
  go_wp2_with fail
  refine (SA.out _).mono ?_; rintro e w' ⟨rfl, rfl⟩
  go_wp2_with fail
  refine (SB.out _).mono ?_; rintro e w' ⟨rfl, rfl⟩
  go_wp2_with fail
  refine (HA.out _ (HV.out.below hb1)).mono ?_; rintro e w2 ⟨hb2, rfl⟩
  have hb2 := hb1.trans (hb2.mono hb1.size)
  go_wp2_with fail
  refine (HB.out _ (HV.out.below hb2)).mono ?_; intro e w3 ht
  obtain ⟨hb3, ht⟩ := ht
  have hb3 := hb2.trans (hb3.mono hb2.size)
  generalize allR B1.data.toList = y at ht
  cases y with
  | error y =>
    obtain ⟨q, m⟩ := y
    subst ht
    go_wp2_with fail
    go_ret
    exact ⟨rfl, hb3⟩
  | ok l =>
    obtain ⟨v, rfl, hown⟩ := ht
    go_wp2_with fail
    go_ret
    exact ⟨rfl, hb3⟩
set_option maxRecDepth 100000 in
set_option maxHeartbeats 1600000 in
theorem joins_bad (a b : ByteArray) (w : World) (hv : ErrVar w) (p : Nat) (n : Int) (l : List Tok) (hx : allR (shortB a 1000).data.toList = .ok l) (hy : allR (shortB b 1000).data.toList = .error (p, n)) :
    Calls Tryd.prog 3 #[.string a, .string b] w (Back (.bool true) w) := by
  obtain ⟨hn, hp⟩ := allR_err _ _ _ hy
  have hnb : (n != 0) = true := by simpa using hn
  have hnb2 : (n == 0) = false := by simpa using hn
  have hz := allR_join _ (shortB b 1000).data.toList _ hx
  rw [hy] at hz
  simp only at hz
  obtain ⟨l', t', hll, _, _⟩ := allR_last _ _ hx
  have hlne : l ≠ [] := by rw [hll]; simp
  obtain ⟨A1, hA1⟩ : ∃ A1, shortB a 1000 = A1 := ⟨_, rfl⟩
  obtain ⟨B1, hB1⟩ : ∃ B1, shortB b 1000 = B1 := ⟨_, rfl⟩
  have hla := shortB_le a 1000
  have hlb := shortB_le b 1000
  have SA := fun v : World => short_any a 1000 v
  have SB := fun v : World => short_any b 1000 v
  rw [hA1] at hx hla SA hz
  rw [hB1] at hlb SB hy hz hp
  have hp : p ≤ B1.size := hp
  have hAll := fun (v : World) (h : ErrVar v) => All_any A1 v (by omega) h
  rw [hx] at hAll
  have HA := Lib.hid hAll
  have hAllB := fun (v : World) (h : ErrVar v) => All_any B1 v (by omega) h
  rw [hy] at hAllB
  have HB := Lib.hid hAllB
  have hsz : (joined A1 B1).size = A1.size + (B1.size + 1) := joined_size A1 B1
  have hAllJ := fun (v : World) (h : ErrVar v) => All_any (joined A1 B1) v (by omega) h
  rw [show (joined A1 B1).data.toList = A1.data.toList ++ 32 :: B1.data.toList from rfl, hz] at hAllJ
  have HJ := Lib.hid hAllJ
  have hjoin := join_eq A1 B1
  obtain ⟨J, hJ⟩ : ∃ J, joined A1 B1 = J := ⟨_, rfl⟩
  rw [hJ] at HJ hjoin
  obtain ⟨pp, hpp⟩ : ∃ pp : Nat, A1.data.toList.length + 1 + p = pp := ⟨_, rfl⟩
  rw [hpp] at HJ
  have hpp2 : (A1.size : Int) + 1 + (p : Int) = (pp : Int) := by have : A1.data.toList.length = A1.size := rfl; omega
  have hs1 : IntKind.i64.wrap ((A1.size : Int) + 1) = (A1.size : Int) + 1 := IntWalk.i64_in _ (by omega)
  have hs2 : IntKind.i64.wrap ((A1.size : Int) + 1 + (p : Int)) = (pp : Int) := by rw [hpp2]; exact IntWalk.i64_in _ (by omega)
  have hla2 : (A1.size : Int) ≤ 1000 := by omega
  have hlb2 : (B1.size : Int) ≤ 1000 := by omega
  have HV := Lib.hid hv
  have SA := Lib.hid SA
  have SB := Lib.hid SB
  clear hv hx hn hA1 hB1 hAll hAllB hAllJ hy hz hp hpp hsz hll hJ hpp2
  go_enter Tryd.func3, Tryd.ntmps3
  go_wp2_with fail
  refine (awake_any _ HV.out).mono ?_; rintro e w1 ⟨rfl, hb1⟩
  go_wp2_with fail
  refine (SA.out _).mono ?_; rintro e w' ⟨rfl, rfl⟩
  go_wp2_with fail
  refine (SB.out _).mono ?_; rintro e w' ⟨rfl, rfl⟩
  go_wp2_with fail
  refine (HA.out _ (HV.out.below hb1)).mono ?_; rintro e w2 ⟨hb2, v, rfl, hown⟩
  have hb2 := hb1.trans (hb2.mono hb1.size)
  obtain ⟨g, cap, rfl, _, _, _, _, _⟩ := rows_of_own hown hlne
  clear hown
  go_wp2_with fail
  refine (HB.out _ (HV.out.below hb2)).mono ?_; rintro e w3 ⟨hb3, rfl⟩
  have hb3 := hb2.trans (hb3.mono hb2.size)
  go_wp2_with fail
  refine (HJ.out _ (HV.out.below hb3)).mono ?_; rintro e w4 ⟨hb4, rfl⟩
  have hb4 := hb3.trans (hb4.mono hb3.size)
  go_wp2_with fail
  go_ret
  exact ⟨rfl, hb4⟩
theorem Below_drewN {B : Nat} {a w : World} (h : Below B a w) (n : Nat) : Below B a (w.drewN n) := ⟨h.os, h.tape, h.output, h.size, h.block⟩
theorem flat_one (l : List Tok) : ∀ u ∈ flat l, u.oneCell' = true := by
  intro u hu
  unfold flat at hu
  obtain ⟨t, _, ht⟩ := List.mem_flatMap.1 hu
  simp [cellsT] at ht
  rcases ht with rfl | rfl | rfl | rfl <;> rfl
theorem flat_app (l m : List Tok) : flat (l ++ m) = flat l ++ flat m := by unfold flat; simp
theorem row_news {w : World} {base g cap n : Nat} {xs ys : List Value} (h : w.ownsRow base TT 4 (.slice (some ⟨g, 0, none⟩) n cap) n (xs ++ ys)) : ∀ j u, xs[j]? = some u → w.cell? ((⟨g, 0, none⟩ : Addr).add j) = some u := by
  intro j u hu
  exact World.ownsRow.cells h (g := g) rfl j u (by rw [List.getElem?_append_left (List.getElem?_eq_some_iff.1 hu).1]; exact hu)
theorem kept_news {w4 w5 : World} {base g n cap : Nat} {xs : List Value} {o : Obj} {row : Option Nat} (h : w4.ownsRow base TT 4 (.slice (some ⟨g, 0, none⟩) n cap) n xs) (hg : (w4.alloc o).grownBy w5 row) (hr : row = some w4.heap.size) :
    ∀ j u, xs[j]? = some u → w5.cell? ((⟨g, 0, none⟩ : Addr).add j) = some u := by
  subst hr
  have hlt := (h.lt g rfl).2
  exact World.ownsRow.cells ((World.ownsRow.alloc h o).kept hg (Or.inr (by intro e; have e : some g = some w4.heap.size := e; injection e with e; omega))) rfl
theorem glue_own {w : World} {base m1 n2 nz : Nat} {v : Value} {l l2 : List Tok} (h : w.ownsRow base TT 4 v (0 + m1 + n2) ([] ++ flat l ++ flat l2)) (h1 : l.length = m1) (h2 : l2.length = n2) (h3 : nz = m1 + n2) (hp : 0 < n2) :
    ∃ g cap, v = .slice (some ⟨g, 0, none⟩) nz cap ∧ base ≤ g ∧ g < w.heap.size ∧ nz ≤ cap ∧ cap ≤ maxLen ∧ Rows_ g (l ++ l2) w := by
  have hl : (l ++ l2).length = nz := by rw [List.length_append]; omega
  rw [List.nil_append, ← flat_app, show 0 + m1 + n2 = (l ++ l2).length by omega] at h
  have := rows_of_own h (by intro e; rw [e] at hl; simp at hl; omega)
  rw [hl] at this
  exact this
set_option maxRecDepth 100000 in
set_option maxHeartbeats 3200000 in
theorem joins_ok (a b : ByteArray) (w : World) (hv : ErrVar w) (l l2 : List Tok) (hx : allR (shortB a 1000).data.toList = .ok l) (hy : allR (shortB b 1000).data.toList = .ok l2) :
    Calls Tryd.prog 3 #[.string a, .string b] w (Back (.bool true) w) := by
  have hz := allR_join _ (shortB b 1000).data.toList _ hx
  rw [hy] at hz
  simp only at hz
  obtain ⟨l', t', hll, _, _⟩ := allR_last _ _ hx
  obtain ⟨l2', t2', hll2, _, _⟩ := allR_last _ _ hy
  have hlne : l ≠ [] := by rw [hll]; simp
  have hl2ne : l2 ≠ [] := by rw [hll2]; simp
  have hin1 := (allR_in _ _ hx).1
  obtain ⟨hin2, hin3⟩ := allR_in _ _ hy
  obtain ⟨A1, hA1⟩ : ∃ A1, shortB a 1000 = A1 := ⟨_, rfl⟩
  obtain ⟨B1, hB1⟩ : ∃ B1, shortB b 1000 = B1 := ⟨_, rfl⟩
  have hla := shortB_le a 1000
  have hlb := shortB_le b 1000
  have SA := fun v : World => short_any a 1000 v
  have SB := fun v : World => short_any b 1000 v
  rw [hA1] at hx hla SA hz hin1
  rw [hB1] at hlb SB hy hz hin2 hin3
  have hin1 : l.length ≤ A1.size + 1 := hin1
  have hin2 : l2.length ≤ B1.size + 1 := hin2
  have hin3 : ∀ t ∈ l2, t.at_ ≤ B1.size := hin3
  have hAll := fun (v : World) (h : ErrVar v) => All_any A1 v (by omega) h
  rw [hx] at hAll
  have HA := Lib.hid hAll
  have hAllB := fun (v : World) (h : ErrVar v) => All_any B1 v (by omega) h
  rw [hy] at hAllB
  have HB := Lib.hid hAllB
  have hsz : (joined A1 B1).size = A1.size + (B1.size + 1) := joined_size A1 B1
  have hAllJ := fun (v : World) (h : ErrVar v) => All_any (joined A1 B1) v (by omega) h
  rw [show (joined A1 B1).data.toList = A1.data.toList ++ 32 :: B1.data.toList from rfl, hz] at hAllJ
  rw [hll, List.dropLast_concat] at hAllJ
  have hK : A1.data.toList.length + 1 = A1.size + 1 := rfl
  rw [hK] at hAllJ
  obtain ⟨lz, hlz⟩ : ∃ lz, l' ++ l2.map (moved (A1.size + 1)) = lz := ⟨_, rfl⟩
  rw [hlz] at hAllJ
  have hlzne : lz ≠ [] := by
    rw [← hlz]; intro h
    exact hl2ne (List.map_eq_nil_iff.1 (List.append_eq_nil_iff.1 h).2)
  have HJ := Lib.hid hAllJ
  have hjoin := join_eq A1 B1
  obtain ⟨J, hJ⟩ : ∃ J, joined A1 B1 = J := ⟨_, rfl⟩
  rw [hJ] at HJ hjoin
  obtain ⟨m1, hm1⟩ : ∃ m1, l'.length = m1 := ⟨_, rfl⟩
  obtain ⟨n1, hn1⟩ : ∃ n1, l.length = n1 := ⟨_, rfl⟩
  obtain ⟨n2, hn2⟩ : ∃ n2, l2.length = n2 := ⟨_, rfl⟩
  obtain ⟨nz, hnz⟩ : ∃ nz, lz.length = nz := ⟨_, rfl⟩
  have hnm : n1 = m1 + 1 := by rw [← hn1, hll, ← hm1]; simp
  have hnzz : nz = m1 + n2 := by rw [← hnz, ← hlz, ← hm1, ← hn2]; simp
  have hn2p : 0 < n2 := by rw [← hn2]; exact List.length_pos_iff.2 hl2ne
  have hw1 : IntKind.i64.wrap ((n1 : Int) + (n2 : Int)) = (n1 : Int) + (n2 : Int) := IntWalk.i64_in _ (by omega)
  have hw2 : IntKind.i64.wrap ((n1 : Int) + (n2 : Int) - 1) = (nz : Int) := by rw [show (n1 : Int) + (n2 : Int) - 1 = (nz : Int) by omega]; exact IntWalk.i64_in _ (by omega)
  have hw3 : IntKind.i64.wrap ((n1 : Int) - 1) = (m1 : Int) := by rw [show (n1 : Int) - 1 = (m1 : Int) by omega]; exact IntWalk.i64_in _ (by omega)
  have hla2 : (A1.size : Int) ≤ 1000 := by omega
  have hlb2 : (B1.size : Int) ≤ 1000 := by omega
  have HLL := Lib.hid hll
  have HLZ := Lib.hid hlz
  have HM1 := Lib.hid hm1
  have HN1 := Lib.hid hn1
  have HN2 := Lib.hid hn2
  have HNZ := Lib.hid hnz
  have HNM := Lib.hid hnm
  have HNZZ := Lib.hid hnzz
  have HI := Lib.hid hin3
  have b1 : n1 ≤ 1001 := by omega
  have b2 : n2 ≤ 1001 := by omega
  have b3 : m1 ≤ 1001 := by omega
  have HV := Lib.hid hv
  have SA := Lib.hid SA
  have SB := Lib.hid SB
  clear hv hx hA1 hB1 hAll hAllB hAllJ hy hz hsz hll hJ hlz hm1 hn1 hn2 hnz hnm hnzz hin1 hin2 hin3 hK hll2
  obtain ⟨i0, hi, hz0, hz1, hz2⟩ := info_parts (show (Tryd.prog.info? TT).map (fun i => (i.zero, i.size, i.bytes)) = some (some (.agg #[.int .i64 0, .string ⟨#[]⟩, .int .i64 0, .int .i64 0]), 4, 40) by kernel_rfl)
  have tsl : Tryd.prog.underlying 24 = some (.slice TT) := by kernel_rfl
  go_enter Tryd.func3, Tryd.ntmps3
  go_wp2_with fail
  refine (awake_any _ HV.out).mono ?_; rintro e w1 ⟨rfl, hb1⟩
  go_wp2_with fail
  refine (SA.out _).mono ?_; rintro e w' ⟨rfl, rfl⟩
  go_wp2_with fail
  refine (SB.out _).mono ?_; rintro e w' ⟨rfl, rfl⟩
  go_wp2_with fail
  refine (HA.out _ (HV.out.below hb1)).mono ?_; rintro e w2 ⟨hb2, v, rfl, hown1⟩
  have hb2' := hb1.trans (hb2.mono hb1.size)
  obtain ⟨g1, cap1, rfl, hg1, hg2, hcap1, hcm1, _⟩ := rows_of_own hown1 hlne
  rw [HN1.out] at hown1 hcap1 ⊢
  go_wp2_with fail
  refine (HB.out _ (HV.out.below hb2')).mono ?_; rintro e w3 ⟨hb3, v, rfl, hown2⟩
  have hb3' := hb2'.trans (hb3.mono hb2'.size)
  obtain ⟨g2, cap2, rfl, hg21, hg22, hcap2, hcm2, _⟩ := rows_of_own hown2 hl2ne
  rw [HN2.out] at hown2 hcap2 ⊢
  have hown1 := own_below hown1 hb3
  go_wp2_with fail
  refine (HJ.out _ (HV.out.below hb3')).mono ?_; rintro e w4 ⟨hb4, v, rfl, hown3⟩
  have hb4' := hb3'.trans (hb4.mono hb3'.size)
  obtain ⟨g3, cap3, rfl, hg31, hg32, hcap3, hcm3, hrow3⟩ := rows_of_own hown3 hlzne
  rw [HNZ.out] at hown3 hcap3 ⊢
  have hown1 := own_below hown1 hb4
  have hown2 := own_below hown2 hb4
  have hm1c : m1 ≤ cap1 := by have := HNM.out; omega
  have hm1i : (m1 : Int) ≤ (cap1 : Int) := by omega
  clear hb1 hb2 hb3 hb4 hb2' hb3' hown3
  have hmade : (w4.alloc (.cells #[] TT)).ownsRow w4.heap.size TT 4 (.slice (some ⟨w4.heap.size, 0, none⟩) 0 0) 0 [] := World.ownsRow_made w4 #[] 0 (Nat.le_refl _) (by unfold maxLen; omega) rfl
  have hnews1 : ∀ j u, (flat l')[j]? = some u → (w4.alloc (.cells #[] TT)).cell? ((⟨g1, 0, none⟩ : Addr).add j) = some u := by
    have h1 := World.ownsRow.alloc hown1 (.cells #[] TT)
    rw [HLL.out, flat_app] at h1
    exact row_news h1
  have hlen1 : (flat l').length = m1 * 4 := by rw [flat_len, HM1.out]
  have hlen2 : (flat l2).length = n2 * 4 := by rw [flat_len, HN2.out]
  have hg24 : g2 < w4.heap.size := (hown2.lt g2 rfl).2
  have hma := Lib.hid hmade
  have hne1 := Lib.hid hnews1
  have hl1 := Lib.hid hlen1
  have hl2 := Lib.hid hlen2
  have hr3 := Lib.hid hrow3
  have ho2 := Lib.hid hown2
  have tok1 : True := trivial
  clear hmade hnews1 hlen1 hlen2 hown1 hrow3 hown2
  go_wp2_with (first
    | (at_builtin; have _t := tok1; refine wpList_append_own _ rfl _ _ 24 rfl w4.heap.size TT i0 (.agg #[.int .i64 0, .string ⟨#[]⟩, .int .i64 0, .int .i64 0]) 4 40 tsl hi hz0 hz1 hz2 rfl (by decide) _ _ _ rfl hma.out ⟨g1, 0, none⟩ m1 cap1 (flat l') rfl hl1.out hne1.out (flat_one l') (by unfold maxLen; omega) (by omega) (by simp) ?_; intro v1 w5 hown5 hgrow5 _; clear tok1 _t; have hne2 := Lib.hid (kept_news ho2.out hgrow5 rfl); have hsz5 : w4.heap.size ≤ w5.heap.size := by { have := hgrow5.size; simp at this; omega }; have ho5 := Lib.hid hown5; have hgr5 := Lib.hid hgrow5; clear hown5 hgrow5)
    | (at_builtin; refine wpList_append_own _ rfl _ _ 24 rfl w4.heap.size TT i0 (.agg #[.int .i64 0, .string ⟨#[]⟩, .int .i64 0, .int .i64 0]) 4 40 tsl hi hz0 hz1 hz2 rfl (by decide) _ _ _ rfl ho5.out ⟨g2, 0, none⟩ n2 cap2 (flat l2) rfl hl2.out hne2.out (flat_one l2) (by unfold maxLen; omega) (by omega) hsz5 ?_; intro v2 w6 hown6 hgrow6 _; obtain ⟨g6, cap6, rfl, hg61, hg62, hcap6, hcm6, hrow6⟩ := glue_own hown6 HM1.out HN2.out HNZZ.out hn2p; have hb6 : Below w4.heap.size w4 w6 := (((Below.refl _ w4).alloc (Nat.le_refl _) _).grown hgr5.out (by simp) (fun k hk => by { have e : some w4.heap.size = some k := hk; injection e with e; omega })).grown hgrow6 hsz5 (fun k hk => (ho5.out.lt k hk).1); have hr6 := Lib.hid hrow6; clear hown6 hgrow6 hrow6))
  have hr36 := Lib.hid (hr3.out.below hb6 hg32)
  have hbw6 : Below w.heap.size w w6 := hb4'.trans (hb6.mono hb4'.size)
  have hg36 : g3 < w6.heap.size := Nat.lt_of_lt_of_le hg32 hb6.size
  clear hb6 hb4'
  go_loopw [87] (fun y wr => ∃ k : Nat, y = .int .i64 (k : Int) ∧ k ≤ nz ∧ Below w6.heap.size w6 wr) (fun y _ => nz - (intOf y).toNat)
  case atStart => exact ⟨0, rfl, Nat.zero_le _, Below.refl _ _⟩
  case round =>
    obtain ⟨k, rfl, hk, hbr⟩ := hrel
    by_cases hkn : k < nz
    · have hdec : decide ((k : Int) < (nz : Int)) = true := by simpa using hkn
      have hkw : IntKind.i64.wrap ((k : Int) + 1) = (k : Int) + 1 := IntWalk.i64_in _ (by have := HNZZ.out; omega)
      obtain ⟨u, hu⟩ : ∃ u, (l' ++ l2)[k]? = some u := ⟨_, List.getElem?_eq_getElem (by rw [List.length_append, HM1.out, HN2.out, ← HNZZ.out]; exact hkn)⟩
      obtain ⟨r0, r1, r2, r3⟩ := (hr6.out.below hbr hg62) k u hu
      obtain ⟨z, hz⟩ : ∃ z, lz[k]? = some z := ⟨_, List.getElem?_eq_getElem (by rw [HNZ.out]; exact hkn)⟩
      obtain ⟨q0, q1, q2, q3⟩ := (hr36.out.below hbr hg36) k z hz
      have huz : k < m1 ∧ z = u ∨ m1 ≤ k ∧ z = moved (A1.size + 1) u ∧ u.at_ ≤ B1.size := by
        have hz2 := hz
        rw [← HLZ.out] at hz2
        rcases Nat.lt_or_ge k m1 with h | h
        · rw [List.getElem?_append_left (by rw [HM1.out]; exact h)] at hu hz2
          exact .inl ⟨h, Option.some.inj (hz2.symm.trans hu)⟩
        · rw [List.getElem?_append_right (by rw [HM1.out]; exact h)] at hu hz2
          rw [List.getElem?_map, hu] at hz2
          exact .inr ⟨h, (Option.some.inj hz2).symm, HI.out u (List.mem_of_getElem? hu)⟩
      have HR := Lib.hid hu
      have HZ := Lib.hid hz
      clear hu hz
      rcases huz with ⟨h, rfl⟩ | ⟨h, rfl, hat⟩
      · have h1 : ¬ (m1 : Int) ≤ (k : Int) := by omega
        clear h HR HZ
        obtain ⟨kd, hkd⟩ : ∃ kd : Int, (z.kind : Int) = kd := ⟨_, rfl⟩
        obtain ⟨wd, hwd⟩ : ∃ wd : ByteArray, (⟨z.word.toArray⟩ : ByteArray) = wd := ⟨_, rfl⟩
        obtain ⟨nn, hnn⟩ : ∃ nn : Int, z.num = nn := ⟨_, rfl⟩
        obtain ⟨aa, haa⟩ : ∃ aa : Int, (z.at_ : Int) = aa := ⟨_, rfl⟩
        rw [hkd] at r0 q0
        rw [hwd] at r1 q1
        rw [hnn] at r2 q2
        rw [haa] at r3 q3
        clear hkd hwd hnn haa
        have hg3r : g3 < wr.heap.size := Nat.lt_of_lt_of_le hg36 hbr.size
        go_wp2_with fail
        obtain ⟨W7, hW⟩ : ∃ W7, wr.alloc (Obj.cells #[.int .i64 kd, .string wd, .int .i64 nn, .int .i64 aa] TT) = W7 := ⟨_, rfl⟩
        have hal : Below wr.heap.size wr W7 := by rw [← hW]; exact (Below.refl _ _).alloc (Nat.le_refl _) _
        have htk : Tk TT wr.heap.size kd wd nn aa W7 := by rw [← hW]; exact Tk.made wr
        rw [hW]
        have p0 := (hal.cell (p := ⟨g3, _, none⟩) hg3r).trans q0
        have p1 := (hal.cell (p := ⟨g3, _, none⟩) hg3r).trans q1
        have p2 := (hal.cell (p := ⟨g3, _, none⟩) hg3r).trans q2
        have p3 := (hal.cell (p := ⟨g3, _, none⟩) hg3r).trans q3
        have t0 := htk.c0
        have t1 := htk.c1
        have t2 := htk.c2
        have t3 := htk.c3
        have hb7 := hbr.trans (hal.mono hbr.size)
        clear hW q0 q1 q2 q3 r0 r1 r2 r3 hal htk
        go_quiet (fail)
        go_wp2_with fail
        exact ⟨⟨k + 1, vint (by omega), by omega, Below_drewN hb7 _⟩, by simp only [intOf]; omega⟩
      · have h1 : (m1 : Int) ≤ (k : Int) := by omega
        have hs1 : IntKind.i64.wrap ((A1.size : Int) + 1) = (A1.size : Int) + 1 := IntWalk.i64_in _ (by omega)
        obtain ⟨zz, hzz⟩ : ∃ zz : Int, (((moved (A1.size + 1) u).at_ : Nat) : Int) = zz := ⟨_, rfl⟩
        have hs2 : IntKind.i64.wrap ((u.at_ : Int) + ((A1.size : Int) + 1)) = zz := by
          have e : ((u.at_ : Int) + ((A1.size : Int) + 1)) = zz := by rw [← hzz]; show _ = ((A1.size + 1 + u.at_ : Nat) : Int); omega
          rw [e]; exact IntWalk.i64_in _ (by omega)
        have q0 : _ = some (Value.int .i64 (u.kind : Int)) := q0
        have q1 : _ = some (Value.string ⟨u.word.toArray⟩) := q1
        have q2 : _ = some (Value.int .i64 u.num) := q2
        rw [hzz] at q3
        clear h HR HZ hzz
        obtain ⟨kd, hkd⟩ : ∃ kd : Int, (u.kind : Int) = kd := ⟨_, rfl⟩
        obtain ⟨wd, hwd⟩ : ∃ wd : ByteArray, (⟨u.word.toArray⟩ : ByteArray) = wd := ⟨_, rfl⟩
        obtain ⟨nn, hnn⟩ : ∃ nn : Int, u.num = nn := ⟨_, rfl⟩
        obtain ⟨aa, haa⟩ : ∃ aa : Int, (u.at_ : Int) = aa := ⟨_, rfl⟩
        rw [hkd] at r0 q0
        rw [hwd] at r1 q1
        rw [hnn] at r2 q2
        rw [haa] at r3 hs2
        clear hkd hwd hnn haa hat
        have hg3r : g3 < wr.heap.size := Nat.lt_of_lt_of_le hg36 hbr.size
        go_wp2_with fail
        obtain ⟨W7, hW⟩ : ∃ W7, wr.alloc (Obj.cells #[.int .i64 kd, .string wd, .int .i64 nn, .int .i64 zz] TT) = W7 := ⟨_, rfl⟩
        have hal : Below wr.heap.size wr W7 := by rw [← hW]; exact (Below.refl _ _).alloc (Nat.le_refl _) _
        have htk : Tk TT wr.heap.size kd wd nn zz W7 := by rw [← hW]; exact Tk.made wr
        rw [hW]
        have p0 := (hal.cell (p := ⟨g3, _, none⟩) hg3r).trans q0
        have p1 := (hal.cell (p := ⟨g3, _, none⟩) hg3r).trans q1
        have p2 := (hal.cell (p := ⟨g3, _, none⟩) hg3r).trans q2
        have p3 := (hal.cell (p := ⟨g3, _, none⟩) hg3r).trans q3
        have t0 := htk.c0
        have t1 := htk.c1
        have t2 := htk.c2
        have t3 := htk.c3
        have hb7 := hbr.trans (hal.mono hbr.size)
        clear hW q0 q1 q2 q3 r0 r1 r2 r3 hal htk
        go_quiet (fail)
        go_wp2_with fail
        exact ⟨⟨k + 1, vint (by omega), by omega, Below_drewN hb7 _⟩, by simp only [intOf]; omega⟩
    · have hdec : decide ((k : Int) < (nz : Int)) = false := by simpa using hkn
      go_wp2_with fail
      go_ret
      exact ⟨rfl, hbw6.trans (hbr.mono hbw6.size)⟩
theorem joins_walk (a b : ByteArray) (w : World) (_ : a.size ≤ 9223372036854775807) (_ : b.size ≤ 9223372036854775807) (hv : ErrVar w) : Calls Tryd.prog 3 #[.string a, .string b] w (Back (.bool true) w) := by
  cases hx : allR (shortB a 1000).data.toList with
  | error y => exact joins_err a b w hv y.1 y.2 hx
  | ok l =>
    cases hy : allR (shortB b 1000).data.toList with
    | error y => exact joins_bad a b w hv y.1 y.2 l hx hy
    | ok l2 => exact joins_ok a b w hv l l2 hx hy
end Lx
end Go.Proofs.YtpfaldcfnhjlgaaDoor
