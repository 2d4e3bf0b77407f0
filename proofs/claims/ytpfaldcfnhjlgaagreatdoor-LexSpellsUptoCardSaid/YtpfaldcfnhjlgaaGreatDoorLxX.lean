/- LexSpells: the plain law. · LexSpells: the walk. · LexSpells: the walk, no tokens; more than 40 (wip/gen/gen_spells.py prints this). · A slice of structs opened to cells: the theorem that extra-structs.md gives to copy. · A slice of tokens that came in, as LexSpells' walk wants it (open_slice_fields in FrOpen). -/
import Derived.Test.YtpfaldcfnhjlgaaGreatDoorLxNt
import Derived.Test.YtpfaldcfnhjlgaaGreatDoorLxSp
import Derived.Test.YtpfaldcfnhjlgaaGreatDoorRX2
import Derived.Test.YtpfaldcfnhjlgaaGreatDoorLxAwX
import Derived.StillTailTactics
import Derived.RegionTactic
import Derived.Test.YtpfaldcfnhjlgaaGreatDoorProg
import Derived.Deep.Slices
import Derived.Deep.Fields
import Derived.ChangeSame
import Derived.Test.YtpfaldcfnhjlgaaGreatDoorRows
import Derived.ProofKit
set_option linter.unusedVariables false
namespace Go.Proofs.YtpfaldcfnhjlgaaGreatDoor
namespace Lx
theorem nextR_small (r : Bytes) (t : Tok) (n : Nat) (h : nextR r = .ok (t, n)) : Small t := by
  unfold nextR at h
  cases hk : sk none 0 r with
  | error st => rw [hk] at h; cases h
  | ok k =>
    rw [hk] at h
    simp only at h
    cases hE : tokR (r.drop k) with
    | error x => obtain ⟨p, e⟩ := x; rw [hE] at h; cases h
    | ok y =>
      obtain ⟨u, m⟩ := y
      rw [hE] at h
      injection h with h
      injection h with h1 h2
      have := tokR_in _ _ _ hE
      subst h1; exact this
theorem spellB_in {S : Bytes} {k : Int} {w : Bytes} {n : Int} (h : spellB S k w n = true) : 0 ≤ k ∧ k ≤ 16 ∧ 0 ≤ n ∧ n ≤ 4611686018427387903 ∧ w.length ≤ 4096 := by
  unfold spellB at h
  cases hx : nextR S with
  | error e => rw [hx] at h; cases h
  | ok y =>
    obtain ⟨t, m⟩ := y
    rw [hx] at h
    simp only [Bool.and_eq_true, decide_eq_true_eq] at h
    obtain ⟨⟨⟨⟨b1, b2⟩, b3⟩, b4⟩, b5⟩ := h
    obtain ⟨s1, s2, s3, s4⟩ := nextR_small _ _ _ hx
    subst b1; subst b2; subst b3
    exact ⟨by omega, by omega, s2, s3, s4⟩
/-- A token that came in. -/
structure Raw where
  kd : Int
  wd : ByteArray
  nm : Int
  pl : Int
def rsp (t : Raw) : Bytes := spelledL t.kd t.wd.data.toList t.nm
def okB (t : Raw) : Bool := spellB (rsp t) t.kd t.wd.data.toList t.nm
theorem cut_ok (k n : Int) (wd : ByteArray) : spellB (spelledL k (shortB wd 5000).data.toList n) k (shortB wd 5000).data.toList n = spellB (spelledL k wd.data.toList n) k wd.data.toList n := by
  by_cases h : 5000 < wd.size
  · have hl : (shortB wd 5000).data.toList.length = 5000 := by
      show (shortB wd 5000).size = 5000
      unfold shortB; rw [if_pos h, ByteArray.size_extract]; omega
    have a1 : spellB (spelledL k (shortB wd 5000).data.toList n) k (shortB wd 5000).data.toList n = false := by
      cases hc : spellB (spelledL k (shortB wd 5000).data.toList n) k (shortB wd 5000).data.toList n
      · rfl
      · have := (spellB_in hc).2.2.2.2
        omega
    have a2 : spellB (spelledL k wd.data.toList n) k wd.data.toList n = false := by
      cases hc : spellB (spelledL k wd.data.toList n) k wd.data.toList n
      · rfl
      · have h2 := (spellB_in hc).2.2.2.2
        have h3 : wd.data.toList.length = wd.size := rfl
        omega
    rw [a1, a2]
  · have : shortB wd 5000 = wd := by unfold shortB; rw [if_neg h]
    rw [this]
theorem cut_same (t : Raw) (h : okB t = true) : shortB t.wd 5000 = t.wd := by
  have h2 := (spellB_in h).2.2.2.2
  have h3 : t.wd.data.toList.length = t.wd.size := rfl
  unfold shortB; rw [if_neg (by omega)]
def good (t : Raw) : Bool := okB t && t.kd != 0
def toTok (t : Raw) : Tok := ⟨t.kd.toNat, t.wd.data.toList, t.nm, 0⟩
def goods (ts : List Raw) : List Tok := (ts.filter good).map toTok
theorem tok_sp (t : Raw) (h : okB t = true) : sp (toTok t) = rsp t := by
  have h1 := (spellB_in h).1
  unfold sp rsp toTok
  simp only
  rw [Int.toNat_of_nonneg h1]
theorem goods_ok (ts : List Raw) : ∀ u ∈ goods ts, u.kind ≠ 0 ∧ spellB (sp u) (u.kind : Int) u.word u.num = true := by
  intro u hu
  obtain ⟨t, ht, rfl⟩ := List.mem_map.1 hu
  have hg := (List.mem_filter.1 ht).2
  unfold good at hg
  rw [Bool.and_eq_true] at hg
  obtain ⟨ho, hk⟩ := hg
  have h1 := (spellB_in ho).1
  have hk : t.kd ≠ 0 := by simpa using hk
  refine ⟨?_, ?_⟩
  · show t.kd.toNat ≠ 0
    omega
  · rw [tok_sp t ho]
    show spellB (rsp t) (t.kd.toNat : Int) t.wd.data.toList t.nm = true
    rw [Int.toNat_of_nonneg h1]; exact ho
theorem spaced_app : ∀ a b : List Tok, spaced (a ++ b) = spaced a ++ spaced b
  | [], b => rfl
  | t :: a, b => by simp only [List.cons_append, spaced]; rw [spaced_app a b]; simp
theorem goods_step (ts : List Raw) (i : Nat) (t : Raw) (h : ts[i]? = some t) : goods (ts.take (i + 1)) = goods (ts.take i) ++ (if good t then [toTok t] else []) := by
  obtain ⟨hi, hg⟩ := List.getElem?_eq_some_iff.1 h
  unfold goods
  rw [List.take_succ_eq_append_getElem hi, List.filter_append, List.map_append, hg]
  by_cases hgt : good t = true
  · simp [List.filter, hgt]
  · simp [List.filter, hgt]
theorem text_step (ts : List Raw) (i : Nat) (t : Raw) (h : ts[i]? = some t) : spaced (goods (ts.take (i + 1))) = spaced (goods (ts.take i)) ++ (if good t then rsp t ++ [32] else []) := by
  rw [goods_step ts i t h, spaced_app]
  by_cases hgt : good t = true
  · have ho : okB t = true := by unfold good at hgt; rw [Bool.and_eq_true] at hgt; exact hgt.1
    rw [if_pos hgt, if_pos hgt]
    simp only [spaced]
    rw [tok_sp t ho]
  · rw [if_neg hgt, if_neg hgt]; rfl
theorem goods_all (ts : List Raw) : ∃ m e, allR (spaced (goods ts)) = .ok (m ++ [e]) ∧ m.length = (goods ts).length ∧ e.kind = 0 ∧ ∀ (i : Nat) (u v : Tok), m[i]? = some u → (goods ts)[i]? = some v → Same u v := by
  have h := spaced_all (goods ts) [] ((spaced (goods ts)).length + 1) 0 (.inl rfl) (goods_ok ts) (by simp)
  exact h
theorem goods_pref (ts : List Raw) (i : Nat) : ∃ r, goods ts = goods (ts.take i) ++ r := by
  refine ⟨goods (ts.drop i), ?_⟩
  unfold goods
  rw [← List.map_append, ← List.filter_append, List.take_append_drop]
/-- The next good token's place among the good ones. -/
theorem goods_at (ts : List Raw) (i : Nat) (t : Raw) (h : ts[i]? = some t) (hg : good t = true) : (goods ts)[(goods (ts.take i)).length]? = some (toTok t) := by
  obtain ⟨r, hr⟩ := goods_pref ts (i + 1)
  rw [goods_step ts i t h, if_pos hg] at hr
  rw [hr, List.append_assoc, List.getElem?_append_right (Nat.le_refl _), Nat.sub_self]
  rfl
theorem goods_le (ts : List Raw) : (goods ts).length ≤ ts.length := by
  unfold goods; rw [List.length_map]; exact List.length_filter_le _ _
theorem text_len (ts : List Raw) : (spaced (goods ts)).length ≤ ts.length * 9000 := by
  have H : ∀ l : List Tok, (∀ u ∈ l, (sp u).length ≤ 8999) → (spaced l).length ≤ l.length * 9000 := by
    intro l
    induction l with
    | nil => intro _; simp [spaced]
    | cons u l ih =>
      intro h
      have h1 := h u List.mem_cons_self
      have h2 := ih (fun v hv => h v (List.mem_cons_of_mem _ hv))
      simp only [spaced, List.length_append, List.length_cons]
      omega
  have h := H (goods ts) (fun u hu => by
    have h1 := (goods_ok ts u hu).2
    obtain ⟨k1, k2, n1, n2, w1⟩ := spellB_in h1
    have := sp_len (u.kind : Int) u.num u.word (by omega) (by omega)
    unfold sp; clear h1; omega)
  exact Nat.le_trans h (Nat.mul_le_mul_right 9000 (goods_le ts))
end Lx
end Go.Proofs.YtpfaldcfnhjlgaaGreatDoor
namespace Go.Proofs.YtpfaldcfnhjlgaaGreatDoor
open Go.RowKit
namespace Lx
theorem below_drew {B : Nat} {a w : World} (h : Below B a w) (n : Nat) : Below B a (w.drewN n) := ⟨h.os, h.tape, h.output, h.size, h.block⟩
/-- A slice of tokens, in memory. -/
def ToksAt (w : World) (v : Value) (ts : List Raw) : Prop :=
  (ts = [] ∧ ∃ a cap, v = .slice a 0 cap) ∨ ∃ b off cap, v = .slice (some ⟨b, off, none⟩) ts.length cap ∧ b < w.heap.size ∧ ts.length ≤ cap ∧ cap ≤ maxLen ∧ ∀ i t, ts[i]? = some t →
    w.cell? ⟨b, off + i * 4, none⟩ = some (.int .i64 t.kd) ∧ w.cell? ⟨b, off + i * 4 + 1, none⟩ = some (.string t.wd) ∧ w.cell? ⟨b, off + i * 4 + 2, none⟩ = some (.int .i64 t.nm) ∧ w.cell? ⟨b, off + i * 4 + 3, none⟩ = some (.int .i64 t.pl)
/-- A token of the sizes that the bounded claim allows. -/
def InR (t : Raw) : Prop := (-9223372036854775808 ≤ t.kd ∧ t.kd ≤ 9223372036854775807) ∧ (-9223372036854775808 ≤ t.nm ∧ t.nm ≤ 9223372036854775807) ∧ t.wd.size ≤ 1048576
set_option maxRecDepth 100000 in
theorem own_any (k n a : Int) (wd : ByteArray) (w : World) :
    Calls Tryz.prog 9 #[.agg #[.int .i64 k, .string wd, .int .i64 n, .int .i64 a]] w (Back (.agg #[.int .i64 k, .string wd, .int .i64 n, .int .i64 a]) w) := by
  go_enter Tryz.func9, Tryz.ntmps9
  go_wp2_with fail
  refine bodyPost_ret (v := .agg #[.int .i64 k, .string wd, .int .i64 n, .int .i64 a]) (by simp [results, Tryz.results9, go_sem]) rfl ?_
  exact ⟨rfl, ((Below.refl _ _).alloc (Nat.le_refl _) _).alloc (by simp) _⟩
set_option maxRecDepth 100000 in
set_option maxHeartbeats 3200000 in
theorem spells_few (w : World) (ts : List Raw) (b off cap : Nat) (hne : ts ≠ []) (h40 : ts.length ≤ 40) (hbl : b < w.heap.size) (hnc : ts.length ≤ cap) (hcm : cap ≤ maxLen)
    (hcells : ∀ i t, ts[i]? = some t →
    w.cell? ⟨b, off + i * 4, none⟩ = some (.int .i64 t.kd) ∧ w.cell? ⟨b, off + i * 4 + 1, none⟩ = some (.string t.wd) ∧ w.cell? ⟨b, off + i * 4 + 2, none⟩ = some (.int .i64 t.nm) ∧ w.cell? ⟨b, off + i * 4 + 3, none⟩ = some (.int .i64 t.pl))
    (hin : ∀ t ∈ ts, InR t) (ht : Pow10 w) (hm : MaxV w) (hv : ErrVar w) :
    Calls Tryz.prog 3 #[.slice (some ⟨b, off, none⟩) ts.length cap] w (Back (.bool true) w) := by
  obtain ⟨nl, hnl⟩ : ∃ nl, ts.length = nl := ⟨_, rfl⟩
  rw [hnl] at h40 hnc ⊢
  have h40i : ¬ (40 : Int) < (nl : Int) := by omega
  have HC := Lib.hid hcells
  have HV := Lib.hid hv
  have HT := Lib.hid ht
  have HM := Lib.hid hm
  have HIN := Lib.hid hin
  have HNL := Lib.hid hnl
  clear hcells hv ht hm hin hnl
  go_enter Tryz.func3, Tryz.ntmps3
  go_wp2_with fail
  refine (awake_any _ HV.out).mono ?_; rintro e w1 ⟨rfl, hb1⟩
  go_wp2_with fail
  go_loopw [3, 4, 28] (fun y m x wr => ∃ (k : Nat) (X : Bytes) (q : Nat), y = .string ⟨X.toArray⟩ ∧ m = .int .i64 (q : Int) ∧ x = .int .i64 (k : Int) ∧ k ≤ nl ∧ X.length ≤ k * 12000 ∧ q ≤ k ∧ Hid (X = spaced (goods (ts.take k)) ∧ q = (goods (ts.take k)).length) ∧ Below w1.heap.size w1 wr) (fun _ _ x _ => nl - (intOf x).toNat)
  case atStart => exact ⟨0, [], 0, rfl, rfl, rfl, Nat.zero_le _, by simp, Nat.le_refl _, Lib.hid ⟨rfl, rfl⟩, Below.refl _ _⟩
  case round =>
    obtain ⟨k, X, q, rfl, rfl, rfl, hk, hXl, hqk, HX, hbr⟩ := hrel
    by_cases hkn : k < nl
    · have hdec : decide ((k : Int) < (nl : Int)) = true := by simpa using hkn
      have hki : (k : Int) < (nl : Int) := by omega
      have hkw : IntKind.i64.wrap ((k : Int) + 1) = (k : Int) + 1 := IntWalk.i64_in _ (by omega)
      have hqw : IntKind.i64.wrap ((q : Int) + 1) = (q : Int) + 1 := IntWalk.i64_in _ (by omega)
      obtain ⟨t, htk⟩ : ∃ t, ts[k]? = some t := ⟨_, List.getElem?_eq_getElem (by rw [HNL.out]; exact hkn)⟩
      have hbwr := hb1.trans (hbr.mono hb1.size)
      obtain ⟨c0, c1, c2, c3⟩ := HC.out k t htk
      have r0 := (hbwr.cell (p := ⟨b, off + k * 4, none⟩) hbl).trans c0
      have r1 := (hbwr.cell (p := ⟨b, off + k * 4 + 1, none⟩) hbl).trans c1
      have r2 := (hbwr.cell (p := ⟨b, off + k * 4 + 2, none⟩) hbl).trans c2
      have r3 := (hbwr.cell (p := ⟨b, off + k * 4 + 3, none⟩) hbl).trans c3
      have HIT := Lib.hid (HIN.out t (List.mem_of_getElem? htk))
      have hts := text_step ts k t htk
      have hgs := goods_step ts k t htk
      have hcut := cut_ok t.kd t.nm t.wd
      have hcs := cut_same t
      have hcl := shortB_le t.wd 5000
      obtain ⟨kd, wd, nm, pl⟩ := t
      simp only at r0 r1 r2 r3 hcut hcs hcl
      have HTS := Lib.hid hts
      have HGS := Lib.hid hgs
      have SA := fun v : World => short_any wd 5000 v
      obtain ⟨cw, hcw⟩ : ∃ cw, shortB wd 5000 = cw := ⟨_, rfl⟩
      rw [hcw] at SA hcut hcs hcl
      have SA := Lib.hid SA
      have HCUT := Lib.hid hcut
      have HCS := Lib.hid hcs
      clear c0 c1 c2 c3 hts hgs hcut hcs hcw htk
      obtain ⟨ik, inn, isz⟩ := HIT.out
      simp only at ik inn isz
      have hS0 := fun (v : World) (h : Pow10 v) (h' : MaxV v) (h'' : ErrVar v) => Spell_any (k := kd) (wd := cw) (n := nm) (a := pl) ik inn.1 inn.2 (by omega) h h' h''
      have hR0 := fun v : World => rspell_any (k := kd) (wd := cw) (n := nm) (a := pl) (w := v) ik inn.1 inn.2 (by omega)
      have hlen := sp_len kd nm cw.data.toList inn.1 inn.2
      have hcl2 : cw.data.toList.length ≤ 5000 := hcl
      obtain ⟨S, hS⟩ : ∃ S, spelledL kd cw.data.toList nm = S := ⟨_, rfl⟩
      obtain ⟨B, hB⟩ : ∃ B, spellB S kd cw.data.toList nm = B := ⟨_, rfl⟩
      rw [hS, hB] at hS0 hR0
      rw [hS] at hlen
      have hSl : S.length ≤ 8999 - 1 + 3000 := by omega
      have HOKB : Hid (okB ⟨kd, wd, nm, pl⟩ = B) := Lib.hid (by
        have h := HCUT.out
        rw [hS, hB] at h
        exact h.symm)
      have HRSP : Hid (B = true → rsp ⟨kd, wd, nm, pl⟩ = S) := Lib.hid (by
        intro hBt
        have h := HCS.out (HOKB.out.trans hBt)
        rw [← hS, h]; rfl)
      obtain ⟨S2, hS2⟩ : ∃ S2 : ByteArray, (⟨S.toArray⟩ : ByteArray) = S2 := ⟨_, rfl⟩
      have hsS : (S2.size : Int) ≤ 12000 := by rw [← hS2]; simp [ByteArray.size]; omega
      have HS2 := Lib.hid hS2
      have HS := Lib.hid hS0
      have HR := Lib.hid hR0
      clear hS0 hR0 hlen hcl hcl2 hS hB hS2 ik inn isz
      cases B with
      | false =>
        have hg : good ⟨kd, wd, nm, pl⟩ = false := by unfold good; rw [HOKB.out]; rfl
        have HTS2 : Hid (X = spaced (goods (ts.take (k + 1))) ∧ q = (goods (ts.take (k + 1))).length) := Lib.hid (by
          rw [HTS.out, HGS.out, hg, ← HX.out.1]
          simp [HX.out.2])
        clear hg
        go_wp2_with fail
        refine (SA.out _).mono ?_; rintro e w' ⟨rfl, rfl⟩
        go_wp2_with fail
        refine (own_any kd nm pl cw _).mono ?_; rintro e w3 ⟨rfl, hb3⟩
        have hT3 : Tk R9 wr.heap.size kd cw nm pl w3 := (hb3.block _ (by simp)).trans (Tk.made wr)
        have hz3 : wr.heap.size < w3.heap.size := by have := hb3.size; simp at this; omega
        have hb3 : Below wr.heap.size wr w3 := ((Below.refl _ _).alloc (Nat.le_refl _) _).trans (hb3.mono (by simp))
        have BW := hbwr.trans (hb3.mono hbwr.size)
        go_wp2_with fail
        refine (HS.out _ (HT.out.below BW) (HM.out.below BW) (HV.out.below BW)).mono ?_; rintro e w4 ⟨hb4, rfl⟩
        have hT4 : Tk R9 wr.heap.size kd cw nm pl w4 := (hb4.block _ hz3).trans hT3
        have hz4 : wr.heap.size < w4.heap.size := Nat.lt_of_lt_of_le hz3 hb4.size
        have hb4 : Below wr.heap.size wr w4 := hb3.trans (hb4.mono hb3.size)
        clear hT3 hz3 hb3 BW
        have g0 := hT4.c0
        have g1 := hT4.c1
        have g2 := hT4.c2
        have g3 := hT4.c3
        rw [if_neg (by decide)]
        go_wp2_with fail
        refine (HR.out _).mono ?_; rintro e w5 ⟨hb5, rfl⟩
        have hT5 : Tk R9 wr.heap.size kd cw nm pl w5 := (hb5.block _ hz4).trans hT4
        have hb5 : Below wr.heap.size wr w5 := hb4.trans (hb5.mono hb4.size)
        clear g0 g1 g2 g3 hT4 hz4 hb4
        have g0 := hT5.c0
        have BR := hbr.trans (hb5.mono hbr.size)
        go_wp2_with fail
        exact ⟨⟨k + 1, X, q, rfl, rfl, vint (by omega), by omega, by omega, by omega, HTS2, BR⟩, by simp only [intOf]; omega⟩
      | true =>
        by_cases h0 : kd = 0
        · have hg : good ⟨kd, wd, nm, pl⟩ = false := by unfold good; rw [h0]; simp
          have HTS2 : Hid (X = spaced (goods (ts.take (k + 1))) ∧ q = (goods (ts.take (k + 1))).length) := Lib.hid (by
            rw [HTS.out, HGS.out, hg, ← HX.out.1]
            simp [HX.out.2])
          have h0b : (kd != 0) = false := by rw [h0]; rfl
          have h0c : (kd == 0) = true := by rw [h0]; rfl
          clear hg h0
          go_wp2_with fail
          refine (SA.out _).mono ?_; rintro e w' ⟨rfl, rfl⟩
          go_wp2_with fail
          refine (own_any kd nm pl cw _).mono ?_; rintro e w3 ⟨rfl, hb3⟩
          have hT3 : Tk R9 wr.heap.size kd cw nm pl w3 := (hb3.block _ (by simp)).trans (Tk.made wr)
          have hz3 : wr.heap.size < w3.heap.size := by have := hb3.size; simp at this; omega
          have hb3 : Below wr.heap.size wr w3 := ((Below.refl _ _).alloc (Nat.le_refl _) _).trans (hb3.mono (by simp))
          have BW := hbwr.trans (hb3.mono hbwr.size)
          go_wp2_with fail
          refine (HS.out _ (HT.out.below BW) (HM.out.below BW) (HV.out.below BW)).mono ?_; rintro e w4 ⟨hb4, rfl⟩
          have hT4 : Tk R9 wr.heap.size kd cw nm pl w4 := (hb4.block _ hz3).trans hT3
          have hz4 : wr.heap.size < w4.heap.size := Nat.lt_of_lt_of_le hz3 hb4.size
          have hb4 : Below wr.heap.size wr w4 := hb3.trans (hb4.mono hb3.size)
          clear hT3 hz3 hb3 BW
          have g0 := hT4.c0
          have g1 := hT4.c1
          have g2 := hT4.c2
          have g3 := hT4.c3
          rw [if_pos rfl, HS2.out]
          go_wp2_with fail
          refine (HR.out _).mono ?_; rintro e w5 ⟨hb5, rfl⟩
          have hT5 : Tk R9 wr.heap.size kd cw nm pl w5 := (hb5.block _ hz4).trans hT4
          have hb5 : Below wr.heap.size wr w5 := hb4.trans (hb5.mono hb4.size)
          clear g0 g1 g2 g3 hT4 hz4 hb4
          have g0 := hT5.c0
          have BR := hbr.trans (hb5.mono hbr.size)
          rw [HS2.out]
          go_wp2_with fail
          exact ⟨⟨k + 1, X, q, rfl, rfl, vint (by omega), by omega, by omega, by omega, HTS2, BR⟩, by simp only [intOf]; omega⟩
        · have hg : good ⟨kd, wd, nm, pl⟩ = true := by unfold good; rw [HOKB.out]; simpa using h0
          have HTS2 : Hid (X ++ (S ++ [32]) = spaced (goods (ts.take (k + 1))) ∧ q + 1 = (goods (ts.take (k + 1))).length) := Lib.hid (by
            rw [HTS.out, HGS.out, hg, ← HX.out.1, HRSP.out rfl]
            simp [HX.out.2])
          have h0b : (kd != 0) = true := by simpa using h0
          have h0c : (kd == 0) = false := by rw [beq_eq_false_iff_ne]; exact h0
          clear hg h0
          have hsX : ((⟨X.toArray⟩ : ByteArray).size : Int) ≤ 15000000 := by simp [ByteArray.size]; omega
          have hcw : S2 ++ (⟨#[32]⟩ : ByteArray) = ⟨(S ++ [32]).toArray⟩ := by rw [← HS2.out]; exact ByteArray.mk_append_mk S [32]
          have hsW2 : ((⟨(S ++ [32]).toArray⟩ : ByteArray).size : Int) ≤ 12001 := by simp [ByteArray.size]; omega
          have hcx : (⟨X.toArray⟩ : ByteArray) ++ ⟨(S ++ [32]).toArray⟩ = ⟨(X ++ (S ++ [32])).toArray⟩ := ByteArray.mk_append_mk X (S ++ [32])
          obtain ⟨S1, hS1⟩ : ∃ S1 : ByteArray, (⟨X.toArray⟩ : ByteArray) = S1 := ⟨_, rfl⟩
          obtain ⟨S3, hS3⟩ : ∃ S3 : ByteArray, (⟨(S ++ [32]).toArray⟩ : ByteArray) = S3 := ⟨_, rfl⟩
          obtain ⟨S4, hS4⟩ : ∃ S4 : ByteArray, (⟨(X ++ (S ++ [32])).toArray⟩ : ByteArray) = S4 := ⟨_, rfl⟩
          rw [hS1] at hsX hcx ⊢
          rw [hS3] at hcw hsW2 hcx
          rw [hS4] at hcx
          have HS4 := Lib.hid hS4
          clear hS1 hS3 hS4
          go_wp2_with fail
          refine (SA.out _).mono ?_; rintro e w' ⟨rfl, rfl⟩
          go_wp2_with fail
          refine (own_any kd nm pl cw _).mono ?_; rintro e w3 ⟨rfl, hb3⟩
          have hT3 : Tk R9 wr.heap.size kd cw nm pl w3 := (hb3.block _ (by simp)).trans (Tk.made wr)
          have hz3 : wr.heap.size < w3.heap.size := by have := hb3.size; simp at this; omega
          have hb3 : Below wr.heap.size wr w3 := ((Below.refl _ _).alloc (Nat.le_refl _) _).trans (hb3.mono (by simp))
          have BW := hbwr.trans (hb3.mono hbwr.size)
          go_wp2_with fail
          refine (HS.out _ (HT.out.below BW) (HM.out.below BW) (HV.out.below BW)).mono ?_; rintro e w4 ⟨hb4, rfl⟩
          have hT4 : Tk R9 wr.heap.size kd cw nm pl w4 := (hb4.block _ hz3).trans hT3
          have hz4 : wr.heap.size < w4.heap.size := Nat.lt_of_lt_of_le hz3 hb4.size
          have hb4 : Below wr.heap.size wr w4 := hb3.trans (hb4.mono hb3.size)
          clear hT3 hz3 hb3 BW
          have g0 := hT4.c0
          have g1 := hT4.c1
          have g2 := hT4.c2
          have g3 := hT4.c3
          rw [if_pos rfl, HS2.out]
          go_wp2_with fail
          refine (HR.out _).mono ?_; rintro e w5 ⟨hb5, rfl⟩
          have hT5 : Tk R9 wr.heap.size kd cw nm pl w5 := (hb5.block _ hz4).trans hT4
          have hb5 : Below wr.heap.size wr w5 := hb4.trans (hb5.mono hb4.size)
          clear g0 g1 g2 g3 hT4 hz4 hb4
          have g0 := hT5.c0
          have BR := hbr.trans (hb5.mono hbr.size)
          rw [HS2.out]
          go_wp2_with fail
          exact ⟨⟨k + 1, X ++ (S ++ [32]), q + 1, by rw [HS4.out], vint (by omega), vint (by omega), by omega, by simp; omega, by omega, HTS2, BR⟩, by simp only [intOf]; omega⟩
    · have hdec : decide ((k : Int) < (nl : Int)) = false := by simpa using hkn
      have hki : ¬ (k : Int) < (nl : Int) := by omega
      obtain rfl : k = nl := by omega
      obtain ⟨wo, rfl⟩ : ∃ wo : World, wo = wr := ⟨_, rfl⟩
      have htl : ts.take k = ts := List.take_of_length_le (by rw [HNL.out]; exact Nat.le_refl _)
      have hX1 := HX.out.1
      have hQ1 := HX.out.2
      rw [htl] at hX1 hQ1
      obtain ⟨m, en, hm1, hm2, hm3, hm4⟩ := goods_all ts
      rw [← hX1] at hm1
      rw [← hQ1] at hm2
      have hXs : (⟨X.toArray⟩ : ByteArray).size ≤ 1000000 := by simp [ByteArray.size]; omega
      have hAll := fun (v : World) (h : ErrVar v) => All_any ⟨X.toArray⟩ v (by omega) h
      rw [show (⟨X.toArray⟩ : ByteArray).data.toList = X from rfl, hm1] at hAll
      have hml : (m ++ [en]).length = q + 1 := by simp [hm2]
      have hqw : IntKind.i64.wrap ((q : Int) + 1) = (q : Int) + 1 := IntWalk.i64_in _ (by omega)
      have hqe : (((q + 1 : Nat) : Int) != (q : Int) + 1) = false := by simp
      obtain ⟨S1, hS1⟩ : ∃ S1 : ByteArray, (⟨X.toArray⟩ : ByteArray) = S1 := ⟨_, rfl⟩
      rw [hS1] at hAll ⊢
      have HA := Lib.hid hAll
      have HM4 := Lib.hid hm4
      have HM2 := Lib.hid hm2
      have HML := Lib.hid hml
      have BW := hb1.trans (hbr.mono hb1.size)
      have hQL : Hid ((goods ts).length = q) := Lib.hid hQ1.symm
      clear hAll hm4 hm1 hm2 hm3 hml hX1 hQ1 htl hS1 hXs
      go_wp2_with fail
      refine (HA.out _ (HV.out.below BW)).mono ?_; rintro e w6 ⟨hb6, v, rfl, hown⟩
      have hb6 : Below w.heap.size w w6 := BW.trans (hb6.mono BW.size)
      obtain ⟨g, cap2, rfl, hg1, hg2, hcap, hcm2, hrow⟩ := rows_of_own hown (by simp)
      rw [HML.out] at hcap ⊢
      have hr := Lib.hid hrow
      clear hown hrow BW hbr HX
      go_wp2_with fail
      go_loopw [14, 101] (fun x y wr => ∃ (i j : Nat), x = .int .i64 (j : Int) ∧ y = .int .i64 (i : Int) ∧ i ≤ k ∧ j ≤ i ∧ Hid (j = (goods (ts.take i)).length) ∧ Below w6.heap.size w6 wr) (fun _ y _ => k - (intOf y).toNat)
      case atStart => exact ⟨0, 0, rfl, rfl, Nat.zero_le _, Nat.le_refl _, Lib.hid rfl, Below.refl _ _⟩
      case round =>
        obtain ⟨i, j, rfl, rfl, hi, hji, HJ, hbr2⟩ := hrel
        by_cases hik : i < k
        · have hdec2 : decide ((i : Int) < (k : Int)) = true := by simpa using hik
          have hii : (i : Int) < (k : Int) := by omega
          have hiw : IntKind.i64.wrap ((i : Int) + 1) = (i : Int) + 1 := IntWalk.i64_in _ (by omega)
          have hjw : IntKind.i64.wrap ((j : Int) + 1) = (j : Int) + 1 := IntWalk.i64_in _ (by omega)
          obtain ⟨t, htk⟩ : ∃ t, ts[i]? = some t := ⟨_, List.getElem?_eq_getElem (by rw [HNL.out]; exact hik)⟩
          have hbwr := hb6.trans (hbr2.mono hb6.size)
          obtain ⟨c0, c1, c2, c3⟩ := HC.out i t htk
          have r0 := (hbwr.cell (p := ⟨b, off + i * 4, none⟩) hbl).trans c0
          have r1 := (hbwr.cell (p := ⟨b, off + i * 4 + 1, none⟩) hbl).trans c1
          have r2 := (hbwr.cell (p := ⟨b, off + i * 4 + 2, none⟩) hbl).trans c2
          have r3 := (hbwr.cell (p := ⟨b, off + i * 4 + 3, none⟩) hbl).trans c3
          have HIT := Lib.hid (HIN.out t (List.mem_of_getElem? htk))
          have HGS := Lib.hid (goods_step ts i t htk)
          have HGA := Lib.hid (goods_at ts i t htk)
          obtain ⟨kd, wd, nm, pl⟩ := t
          simp only at r0 r1 r2 r3
          obtain ⟨ik, inn, isz⟩ := HIT.out
          simp only at ik inn isz
          have hR0 := fun v : World => rspell_any (k := kd) (wd := wd) (n := nm) (a := pl) (w := v) ik inn.1 inn.2 (by omega)
          obtain ⟨S, hS⟩ : ∃ S, spelledL kd wd.data.toList nm = S := ⟨_, rfl⟩
          obtain ⟨B, hB⟩ : ∃ B, spellB S kd wd.data.toList nm = B := ⟨_, rfl⟩
          rw [hS, hB] at hR0
          have HOKB : Hid (okB ⟨kd, wd, nm, pl⟩ = B) := Lib.hid (by rw [← hB, ← hS]; rfl)
          obtain ⟨S2, hS2⟩ : ∃ S2 : ByteArray, (⟨S.toArray⟩ : ByteArray) = S2 := ⟨_, rfl⟩
          have HR := Lib.hid hR0
          clear hR0 hS hB hS2 ik inn isz c0 c1 c2 c3 htk
          cases B with
          | false =>
            have hg : good ⟨kd, wd, nm, pl⟩ = false := by unfold good; rw [HOKB.out]; rfl
            have HJ2 : Hid (j = (goods (ts.take (i + 1))).length) := Lib.hid (by rw [HGS.out, hg, HJ.out]; simp)
            clear hg
            go_wp2_with fail
            refine (HR.out _).mono ?_; rintro e w7 ⟨hb7, rfl⟩
            have hT7 : Tk R9 wr.heap.size kd wd nm pl w7 := (hb7.block _ (by simp)).trans (Tk.made wr)
            have hb7 : Below wr.heap.size wr w7 := ((Below.refl _ _).alloc (Nat.le_refl _) _).trans (hb7.mono (by simp))
            have g0 := hT7.c0
            have g1 := hT7.c1
            have g2 := hT7.c2
            have BR := hbr2.trans (hb7.mono hbr2.size)
            go_wp2_with fail
            exact ⟨⟨i + 1, j, rfl, vint (by omega), by omega, by omega, HJ2, BR⟩, by simp only [intOf]; omega⟩
          | true =>
            by_cases h0 : kd = 0
            · have hg : good ⟨kd, wd, nm, pl⟩ = false := by unfold good; rw [h0]; simp
              have HJ2 : Hid (j = (goods (ts.take (i + 1))).length) := Lib.hid (by rw [HGS.out, hg, HJ.out]; simp)
              have h0c : (kd == 0) = true := by rw [h0]; rfl
              clear hg h0
              go_wp2_with fail
              refine (HR.out _).mono ?_; rintro e w7 ⟨hb7, rfl⟩
              have hT7 : Tk R9 wr.heap.size kd wd nm pl w7 := (hb7.block _ (by simp)).trans (Tk.made wr)
              have hb7 : Below wr.heap.size wr w7 := ((Below.refl _ _).alloc (Nat.le_refl _) _).trans (hb7.mono (by simp))
              have g0 := hT7.c0
              have g1 := hT7.c1
              have g2 := hT7.c2
              have BR := hbr2.trans (hb7.mono hbr2.size)
              go_wp2_with fail
              exact ⟨⟨i + 1, j, rfl, vint (by omega), by omega, by omega, HJ2, BR⟩, by simp only [intOf]; omega⟩
            · have hg : good ⟨kd, wd, nm, pl⟩ = true := by unfold good; rw [HOKB.out]; simpa using h0
              have HJ2 : Hid (j + 1 = (goods (ts.take (i + 1))).length) := Lib.hid (by rw [HGS.out, hg, HJ.out]; simp)
              have h0c : (kd == 0) = false := by rw [beq_eq_false_iff_ne]; exact h0
              have hk0 := (spellB_in HOKB.out).1
              have hga := HGA.out hg
              rw [← HJ.out] at hga
              have hjq : j < q := by
                have := (List.getElem?_eq_some_iff.1 hga).1
                rw [hQL.out] at this; exact this
              have hjm : j < m.length := by rw [HM2.out]; exact hjq
              obtain ⟨u, hu⟩ : ∃ u, m[j]? = some u := ⟨_, List.getElem?_eq_getElem hjm⟩
              obtain ⟨s1, s2, s3⟩ := HM4.out j u _ hu hga
              obtain ⟨q0, q1, q2, q3⟩ := (hr.out.below hbr2 hg2) j u (by rw [List.getElem?_append_left hjm]; exact hu)
              have e0 : (u.kind : Int) = kd := by rw [s1]; exact Int.toNat_of_nonneg hk0
              have e1 : (⟨u.word.toArray⟩ : ByteArray) = wd := by rw [s2]; rfl
              have e2 : u.num = nm := s3
              rw [e0] at q0
              rw [e1] at q1
              rw [e2] at q2
              have hjl : (j : Int) < ((q + 1 : Nat) : Int) := by omega
              have hgw : g < wr.heap.size := Nat.lt_of_lt_of_le hg2 hbr2.size
              have HU := Lib.hid q0
              have HU1 := Lib.hid q1
              have HU2 := Lib.hid q2
              clear hg h0 hk0 hga hjm hu s1 s2 s3 e0 e1 e2 q0 q1 q2 q3
              go_wp2_with fail
              refine (HR.out _).mono ?_; rintro e w7 ⟨hb7, rfl⟩
              have hT7 : Tk R9 wr.heap.size kd wd nm pl w7 := (hb7.block _ (by simp)).trans (Tk.made wr)
              have hb7 : Below wr.heap.size wr w7 := ((Below.refl _ _).alloc (Nat.le_refl _) _).trans (hb7.mono (by simp))
              have g0 := hT7.c0
              have g1 := hT7.c1
              have g2 := hT7.c2
              have BR := hbr2.trans (hb7.mono hbr2.size)
              have q0 := (hb7.cell (p := ⟨g, j * 4, none⟩) hgw).trans HU.out
              have q1 := (hb7.cell (p := ⟨g, j * 4 + 1, none⟩) hgw).trans HU1.out
              have q2 := (hb7.cell (p := ⟨g, j * 4 + 2, none⟩) hgw).trans HU2.out
              go_wp2_with fail
              go_quiet (fail)
              go_wp2_with fail
              exact ⟨⟨i + 1, j + 1, vint (by omega), vint (by omega), by omega, by omega, HJ2, below_drew BR _⟩, by simp only [intOf]; omega⟩
        · have hdec2 : decide ((i : Int) < (k : Int)) = false := by simpa using hik
          have hii : ¬ (i : Int) < (k : Int) := by omega
          have hbwr := hb6.trans (hbr2.mono hb6.size)
          go_wp2_with fail
          go_ret
          exact ⟨rfl, hbwr⟩
end Lx
end Go.Proofs.YtpfaldcfnhjlgaaGreatDoor
namespace Go.Proofs.YtpfaldcfnhjlgaaGreatDoor
open Go.RowKit
namespace Lx
set_option maxRecDepth 100000 in
set_option maxHeartbeats 3200000 in
theorem spells_none (w : World) (av : Option Addr) (cap : Nat) (hv : ErrVar w) :
    Calls Tryz.prog 3 #[.slice av 0 cap] w (Back (.bool true) w) := by
  have hAll := fun (v : World) (h : ErrVar v) => All_any ⟨#[]⟩ v (by decide) h
  rw [show allR (⟨#[]⟩ : ByteArray).data.toList = .ok [⟨0, [], 0, 0⟩] from rfl] at hAll
  have HA := Lib.hid hAll
  have HV := Lib.hid hv
  clear hAll hv
  go_enter Tryz.func3, Tryz.ntmps3
  go_wp2_with fail
  refine (awake_any _ HV.out).mono ?_; rintro e w1 ⟨rfl, hb1⟩
  go_wp2_with fail
  go_loopw [3, 4, 28] (fun y m x wr => y = .string ⟨#[]⟩ ∧ m = .int .i64 0 ∧ x = .int .i64 0 ∧ Below w.heap.size w wr) (fun _ _ _ _ => 0)
  case atStart => exact ⟨rfl, rfl, rfl, hb1⟩
  case round =>
    obtain ⟨rfl, rfl, rfl, hbr⟩ := hrel
    obtain ⟨wo, rfl⟩ : ∃ wo : World, wo = wr := ⟨_, rfl⟩
    go_wp2_with fail
    refine (HA.out _ (HV.out.below hbr)).mono ?_; rintro e w6 ⟨hb6, v, rfl, hown⟩
    have hb6 : Below w.heap.size w w6 := hbr.trans (hb6.mono hbr.size)
    obtain ⟨g, cap2, rfl, hg1, hg2, hcap, hcm2, hrow⟩ := rows_of_own hown (by simp)
    clear hown hrow
    go_wp2_with fail
    go_loopw [14, 101] (fun x y wr => x = .int .i64 0 ∧ y = .int .i64 0 ∧ Below w6.heap.size w6 wr) (fun _ _ _ => 0)
    case atStart => exact ⟨rfl, rfl, Below.refl _ _⟩
    case round =>
      obtain ⟨rfl, rfl, hbr2⟩ := hrel
      go_wp2_with fail
      go_ret
      exact ⟨rfl, hb6.trans (hbr2.mono hb6.size)⟩
set_option maxRecDepth 100000 in
set_option maxHeartbeats 3200000 in
theorem spells_many (w : World) (ts : List Raw) (n0 b off cap : Nat) (hne : ts ≠ []) (h40 : 40 < n0) (hnl : ts.length = 40) (hbl : b < w.heap.size) (hnc : n0 ≤ cap) (hcm : cap ≤ maxLen)
    (hcells : ∀ i t, ts[i]? = some t →
    w.cell? ⟨b, off + i * 4, none⟩ = some (.int .i64 t.kd) ∧ w.cell? ⟨b, off + i * 4 + 1, none⟩ = some (.string t.wd) ∧ w.cell? ⟨b, off + i * 4 + 2, none⟩ = some (.int .i64 t.nm) ∧ w.cell? ⟨b, off + i * 4 + 3, none⟩ = some (.int .i64 t.pl))
    (hin : ∀ t ∈ ts, InR t) (ht : Pow10 w) (hm : MaxV w) (hv : ErrVar w) :
    Calls Tryz.prog 3 #[.slice (some ⟨b, off, none⟩) n0 cap] w (Back (.bool true) w) := by
  have h40i : (40 : Int) < (n0 : Int) := by omega
  have h40c : (40 : Int) ≤ (cap : Int) := by omega
  have h40n : 40 ≤ cap := by omega
  have HC := Lib.hid hcells
  have HV := Lib.hid hv
  have HT := Lib.hid ht
  have HM := Lib.hid hm
  have HIN := Lib.hid hin
  have HNL := Lib.hid hnl
  clear hcells hv ht hm hin hnl
  go_enter Tryz.func3, Tryz.ntmps3
  go_wp2_with fail
  refine (awake_any _ HV.out).mono ?_; rintro e w1 ⟨rfl, hb1⟩
  go_wp2_with fail
  go_loopw [3, 4, 28] (fun y m x wr => ∃ (k : Nat) (X : Bytes) (q : Nat), y = .string ⟨X.toArray⟩ ∧ m = .int .i64 (q : Int) ∧ x = .int .i64 (k : Int) ∧ k ≤ 40 ∧ X.length ≤ k * 12000 ∧ q ≤ k ∧ Hid (X = spaced (goods (ts.take k)) ∧ q = (goods (ts.take k)).length) ∧ Below w1.heap.size w1 wr) (fun _ _ x _ => 40 - (intOf x).toNat)
  case atStart => exact ⟨0, [], 0, rfl, rfl, rfl, Nat.zero_le _, by simp, Nat.le_refl _, Lib.hid ⟨rfl, rfl⟩, Below.refl _ _⟩
  case round =>
    obtain ⟨k, X, q, rfl, rfl, rfl, hk, hXl, hqk, HX, hbr⟩ := hrel
    by_cases hkn : k < 40
    · have hdec : decide ((k : Int) < (40 : Int)) = true := by rw [decide_eq_true_eq]; omega
      have hki : (k : Int) < (40 : Int) := by omega
      have hkw : IntKind.i64.wrap ((k : Int) + 1) = (k : Int) + 1 := IntWalk.i64_in _ (by omega)
      have hqw : IntKind.i64.wrap ((q : Int) + 1) = (q : Int) + 1 := IntWalk.i64_in _ (by omega)
      obtain ⟨t, htk⟩ : ∃ t, ts[k]? = some t := ⟨_, List.getElem?_eq_getElem (by rw [HNL.out]; exact hkn)⟩
      have hbwr := hb1.trans (hbr.mono hb1.size)
      obtain ⟨c0, c1, c2, c3⟩ := HC.out k t htk
      have r0 := (hbwr.cell (p := ⟨b, off + k * 4, none⟩) hbl).trans c0
      have r1 := (hbwr.cell (p := ⟨b, off + k * 4 + 1, none⟩) hbl).trans c1
      have r2 := (hbwr.cell (p := ⟨b, off + k * 4 + 2, none⟩) hbl).trans c2
      have r3 := (hbwr.cell (p := ⟨b, off + k * 4 + 3, none⟩) hbl).trans c3
      have HIT := Lib.hid (HIN.out t (List.mem_of_getElem? htk))
      have hts := text_step ts k t htk
      have hgs := goods_step ts k t htk
      have hcut := cut_ok t.kd t.nm t.wd
      have hcs := cut_same t
      have hcl := shortB_le t.wd 5000
      obtain ⟨kd, wd, nm, pl⟩ := t
      simp only at r0 r1 r2 r3 hcut hcs hcl
      have HTS := Lib.hid hts
      have HGS := Lib.hid hgs
      have SA := fun v : World => short_any wd 5000 v
      obtain ⟨cw, hcw⟩ : ∃ cw, shortB wd 5000 = cw := ⟨_, rfl⟩
      rw [hcw] at SA hcut hcs hcl
      have SA := Lib.hid SA
      have HCUT := Lib.hid hcut
      have HCS := Lib.hid hcs
      clear c0 c1 c2 c3 hts hgs hcut hcs hcw htk
      obtain ⟨ik, inn, isz⟩ := HIT.out
      simp only at ik inn isz
      have hS0 := fun (v : World) (h : Pow10 v) (h' : MaxV v) (h'' : ErrVar v) => Spell_any (k := kd) (wd := cw) (n := nm) (a := pl) ik inn.1 inn.2 (by omega) h h' h''
      have hR0 := fun v : World => rspell_any (k := kd) (wd := cw) (n := nm) (a := pl) (w := v) ik inn.1 inn.2 (by omega)
      have hlen := sp_len kd nm cw.data.toList inn.1 inn.2
      have hcl2 : cw.data.toList.length ≤ 5000 := hcl
      obtain ⟨S, hS⟩ : ∃ S, spelledL kd cw.data.toList nm = S := ⟨_, rfl⟩
      obtain ⟨B, hB⟩ : ∃ B, spellB S kd cw.data.toList nm = B := ⟨_, rfl⟩
      rw [hS, hB] at hS0 hR0
      rw [hS] at hlen
      have hSl : S.length ≤ 8999 - 1 + 3000 := by omega
      have HOKB : Hid (okB ⟨kd, wd, nm, pl⟩ = B) := Lib.hid (by
        have h := HCUT.out
        rw [hS, hB] at h
        exact h.symm)
      have HRSP : Hid (B = true → rsp ⟨kd, wd, nm, pl⟩ = S) := Lib.hid (by
        intro hBt
        have h := HCS.out (HOKB.out.trans hBt)
        rw [← hS, h]; rfl)
      obtain ⟨S2, hS2⟩ : ∃ S2 : ByteArray, (⟨S.toArray⟩ : ByteArray) = S2 := ⟨_, rfl⟩
      have hsS : (S2.size : Int) ≤ 12000 := by rw [← hS2]; simp [ByteArray.size]; omega
      have HS2 := Lib.hid hS2
      have HS := Lib.hid hS0
      have HR := Lib.hid hR0
      clear hS0 hR0 hlen hcl hcl2 hS hB hS2 ik inn isz
      cases B with
      | false =>
        have hg : good ⟨kd, wd, nm, pl⟩ = false := by unfold good; rw [HOKB.out]; rfl
        have HTS2 : Hid (X = spaced (goods (ts.take (k + 1))) ∧ q = (goods (ts.take (k + 1))).length) := Lib.hid (by
          rw [HTS.out, HGS.out, hg, ← HX.out.1]
          simp [HX.out.2])
        clear hg
        go_wp2_with fail
        refine (SA.out _).mono ?_; rintro e w' ⟨rfl, rfl⟩
        go_wp2_with fail
        refine (own_any kd nm pl cw _).mono ?_; rintro e w3 ⟨rfl, hb3⟩
        have hT3 : Tk R9 wr.heap.size kd cw nm pl w3 := (hb3.block _ (by simp)).trans (Tk.made wr)
        have hz3 : wr.heap.size < w3.heap.size := by have := hb3.size; simp at this; omega
        have hb3 : Below wr.heap.size wr w3 := ((Below.refl _ _).alloc (Nat.le_refl _) _).trans (hb3.mono (by simp))
        have BW := hbwr.trans (hb3.mono hbwr.size)
        go_wp2_with fail
        refine (HS.out _ (HT.out.below BW) (HM.out.below BW) (HV.out.below BW)).mono ?_; rintro e w4 ⟨hb4, rfl⟩
        have hT4 : Tk R9 wr.heap.size kd cw nm pl w4 := (hb4.block _ hz3).trans hT3
        have hz4 : wr.heap.size < w4.heap.size := Nat.lt_of_lt_of_le hz3 hb4.size
        have hb4 : Below wr.heap.size wr w4 := hb3.trans (hb4.mono hb3.size)
        clear hT3 hz3 hb3 BW
        have g0 := hT4.c0
        have g1 := hT4.c1
        have g2 := hT4.c2
        have g3 := hT4.c3
        rw [if_neg (by decide)]
        go_wp2_with fail
        refine (HR.out _).mono ?_; rintro e w5 ⟨hb5, rfl⟩
        have hT5 : Tk R9 wr.heap.size kd cw nm pl w5 := (hb5.block _ hz4).trans hT4
        have hb5 : Below wr.heap.size wr w5 := hb4.trans (hb5.mono hb4.size)
        clear g0 g1 g2 g3 hT4 hz4 hb4
        have g0 := hT5.c0
        have BR := hbr.trans (hb5.mono hbr.size)
        go_wp2_with fail
        exact ⟨⟨k + 1, X, q, rfl, rfl, vint (by omega), by omega, by omega, by omega, HTS2, BR⟩, by simp only [intOf]; omega⟩
      | true =>
        by_cases h0 : kd = 0
        · have hg : good ⟨kd, wd, nm, pl⟩ = false := by unfold good; rw [h0]; simp
          have HTS2 : Hid (X = spaced (goods (ts.take (k + 1))) ∧ q = (goods (ts.take (k + 1))).length) := Lib.hid (by
            rw [HTS.out, HGS.out, hg, ← HX.out.1]
            simp [HX.out.2])
          have h0b : (kd != 0) = false := by rw [h0]; rfl
          have h0c : (kd == 0) = true := by rw [h0]; rfl
          clear hg h0
          go_wp2_with fail
          refine (SA.out _).mono ?_; rintro e w' ⟨rfl, rfl⟩
          go_wp2_with fail
          refine (own_any kd nm pl cw _).mono ?_; rintro e w3 ⟨rfl, hb3⟩
          have hT3 : Tk R9 wr.heap.size kd cw nm pl w3 := (hb3.block _ (by simp)).trans (Tk.made wr)
          have hz3 : wr.heap.size < w3.heap.size := by have := hb3.size; simp at this; omega
          have hb3 : Below wr.heap.size wr w3 := ((Below.refl _ _).alloc (Nat.le_refl _) _).trans (hb3.mono (by simp))
          have BW := hbwr.trans (hb3.mono hbwr.size)
          go_wp2_with fail
          refine (HS.out _ (HT.out.below BW) (HM.out.below BW) (HV.out.below BW)).mono ?_; rintro e w4 ⟨hb4, rfl⟩
          have hT4 : Tk R9 wr.heap.size kd cw nm pl w4 := (hb4.block _ hz3).trans hT3
          have hz4 : wr.heap.size < w4.heap.size := Nat.lt_of_lt_of_le hz3 hb4.size
          have hb4 : Below wr.heap.size wr w4 := hb3.trans (hb4.mono hb3.size)
          clear hT3 hz3 hb3 BW
          have g0 := hT4.c0
          have g1 := hT4.c1
          have g2 := hT4.c2
          have g3 := hT4.c3
          rw [if_pos rfl, HS2.out]
          go_wp2_with fail
          refine (HR.out _).mono ?_; rintro e w5 ⟨hb5, rfl⟩
          have hT5 : Tk R9 wr.heap.size kd cw nm pl w5 := (hb5.block _ hz4).trans hT4
          have hb5 : Below wr.heap.size wr w5 := hb4.trans (hb5.mono hb4.size)
          clear g0 g1 g2 g3 hT4 hz4 hb4
          have g0 := hT5.c0
          have BR := hbr.trans (hb5.mono hbr.size)
          rw [HS2.out]
          go_wp2_with fail
          exact ⟨⟨k + 1, X, q, rfl, rfl, vint (by omega), by omega, by omega, by omega, HTS2, BR⟩, by simp only [intOf]; omega⟩
        · have hg : good ⟨kd, wd, nm, pl⟩ = true := by unfold good; rw [HOKB.out]; simpa using h0
          have HTS2 : Hid (X ++ (S ++ [32]) = spaced (goods (ts.take (k + 1))) ∧ q + 1 = (goods (ts.take (k + 1))).length) := Lib.hid (by
            rw [HTS.out, HGS.out, hg, ← HX.out.1, HRSP.out rfl]
            simp [HX.out.2])
          have h0b : (kd != 0) = true := by simpa using h0
          have h0c : (kd == 0) = false := by rw [beq_eq_false_iff_ne]; exact h0
          clear hg h0
          have hsX : ((⟨X.toArray⟩ : ByteArray).size : Int) ≤ 15000000 := by simp [ByteArray.size]; omega
          have hcw : S2 ++ (⟨#[32]⟩ : ByteArray) = ⟨(S ++ [32]).toArray⟩ := by rw [← HS2.out]; exact ByteArray.mk_append_mk S [32]
          have hsW2 : ((⟨(S ++ [32]).toArray⟩ : ByteArray).size : Int) ≤ 12001 := by simp [ByteArray.size]; omega
          have hcx : (⟨X.toArray⟩ : ByteArray) ++ ⟨(S ++ [32]).toArray⟩ = ⟨(X ++ (S ++ [32])).toArray⟩ := ByteArray.mk_append_mk X (S ++ [32])
          obtain ⟨S1, hS1⟩ : ∃ S1 : ByteArray, (⟨X.toArray⟩ : ByteArray) = S1 := ⟨_, rfl⟩
          obtain ⟨S3, hS3⟩ : ∃ S3 : ByteArray, (⟨(S ++ [32]).toArray⟩ : ByteArray) = S3 := ⟨_, rfl⟩
          obtain ⟨S4, hS4⟩ : ∃ S4 : ByteArray, (⟨(X ++ (S ++ [32])).toArray⟩ : ByteArray) = S4 := ⟨_, rfl⟩
          rw [hS1] at hsX hcx ⊢
          rw [hS3] at hcw hsW2 hcx
          rw [hS4] at hcx
          have HS4 := Lib.hid hS4
          clear hS1 hS3 hS4
          go_wp2_with fail
          refine (SA.out _).mono ?_; rintro e w' ⟨rfl, rfl⟩
          go_wp2_with fail
          refine (own_any kd nm pl cw _).mono ?_; rintro e w3 ⟨rfl, hb3⟩
          have hT3 : Tk R9 wr.heap.size kd cw nm pl w3 := (hb3.block _ (by simp)).trans (Tk.made wr)
          have hz3 : wr.heap.size < w3.heap.size := by have := hb3.size; simp at this; omega
          have hb3 : Below wr.heap.size wr w3 := ((Below.refl _ _).alloc (Nat.le_refl _) _).trans (hb3.mono (by simp))
          have BW := hbwr.trans (hb3.mono hbwr.size)
          go_wp2_with fail
          refine (HS.out _ (HT.out.below BW) (HM.out.below BW) (HV.out.below BW)).mono ?_; rintro e w4 ⟨hb4, rfl⟩
          have hT4 : Tk R9 wr.heap.size kd cw nm pl w4 := (hb4.block _ hz3).trans hT3
          have hz4 : wr.heap.size < w4.heap.size := Nat.lt_of_lt_of_le hz3 hb4.size
          have hb4 : Below wr.heap.size wr w4 := hb3.trans (hb4.mono hb3.size)
          clear hT3 hz3 hb3 BW
          have g0 := hT4.c0
          have g1 := hT4.c1
          have g2 := hT4.c2
          have g3 := hT4.c3
          rw [if_pos rfl, HS2.out]
          go_wp2_with fail
          refine (HR.out _).mono ?_; rintro e w5 ⟨hb5, rfl⟩
          have hT5 : Tk R9 wr.heap.size kd cw nm pl w5 := (hb5.block _ hz4).trans hT4
          have hb5 : Below wr.heap.size wr w5 := hb4.trans (hb5.mono hb4.size)
          clear g0 g1 g2 g3 hT4 hz4 hb4
          have g0 := hT5.c0
          have BR := hbr.trans (hb5.mono hbr.size)
          rw [HS2.out]
          go_wp2_with fail
          exact ⟨⟨k + 1, X ++ (S ++ [32]), q + 1, by rw [HS4.out], vint (by omega), vint (by omega), by omega, by simp; omega, by omega, HTS2, BR⟩, by simp only [intOf]; omega⟩
    · have hdec : decide ((k : Int) < (40 : Int)) = false := by rw [decide_eq_false_iff_not]; omega
      have hki : ¬ (k : Int) < (40 : Int) := by omega
      have hk40 : k = 40 := by omega
      subst hk40
      obtain ⟨wo, rfl⟩ : ∃ wo : World, wo = wr := ⟨_, rfl⟩
      have htl : ts.take 40 = ts := List.take_of_length_le (by rw [HNL.out]; exact Nat.le_refl _)
      have hX1 := HX.out.1
      have hQ1 := HX.out.2
      rw [htl] at hX1 hQ1
      obtain ⟨m, en, hm1, hm2, hm3, hm4⟩ := goods_all ts
      rw [← hX1] at hm1
      rw [← hQ1] at hm2
      have hXs : (⟨X.toArray⟩ : ByteArray).size ≤ 1000000 := by simp [ByteArray.size]; omega
      have hAll := fun (v : World) (h : ErrVar v) => All_any ⟨X.toArray⟩ v (by omega) h
      rw [show (⟨X.toArray⟩ : ByteArray).data.toList = X from rfl, hm1] at hAll
      have hml : (m ++ [en]).length = q + 1 := by simp [hm2]
      have hqw : IntKind.i64.wrap ((q : Int) + 1) = (q : Int) + 1 := IntWalk.i64_in _ (by omega)
      have hqe : (((q + 1 : Nat) : Int) != (q : Int) + 1) = false := by simp
      obtain ⟨S1, hS1⟩ : ∃ S1 : ByteArray, (⟨X.toArray⟩ : ByteArray) = S1 := ⟨_, rfl⟩
      rw [hS1] at hAll ⊢
      have HA := Lib.hid hAll
      have HM4 := Lib.hid hm4
      have HM2 := Lib.hid hm2
      have HML := Lib.hid hml
      have BW := hb1.trans (hbr.mono hb1.size)
      have hQL : Hid ((goods ts).length = q) := Lib.hid hQ1.symm
      clear hAll hm4 hm1 hm2 hm3 hml hX1 hQ1 htl hS1 hXs
      go_wp2_with fail
      refine (HA.out _ (HV.out.below BW)).mono ?_; rintro e w6 ⟨hb6, v, rfl, hown⟩
      have hb6 : Below w.heap.size w w6 := BW.trans (hb6.mono BW.size)
      obtain ⟨g, cap2, rfl, hg1, hg2, hcap, hcm2, hrow⟩ := rows_of_own hown (by simp)
      rw [HML.out] at hcap ⊢
      have hr := Lib.hid hrow
      clear hown hrow BW hbr HX
      go_wp2_with fail
      go_loopw [14, 101] (fun x y wr => ∃ (i j : Nat), x = .int .i64 (j : Int) ∧ y = .int .i64 (i : Int) ∧ i ≤ 40 ∧ j ≤ i ∧ Hid (j = (goods (ts.take i)).length) ∧ Below w6.heap.size w6 wr) (fun _ y _ => 40 - (intOf y).toNat)
      case atStart => exact ⟨0, 0, rfl, rfl, Nat.zero_le _, Nat.le_refl _, Lib.hid rfl, Below.refl _ _⟩
      case round =>
        obtain ⟨i, j, rfl, rfl, hi, hji, HJ, hbr2⟩ := hrel
        by_cases hik : i < 40
        · have hdec2 : decide ((i : Int) < (40 : Int)) = true := by rw [decide_eq_true_eq]; omega
          have hii : (i : Int) < (40 : Int) := by omega
          have hiw : IntKind.i64.wrap ((i : Int) + 1) = (i : Int) + 1 := IntWalk.i64_in _ (by omega)
          have hjw : IntKind.i64.wrap ((j : Int) + 1) = (j : Int) + 1 := IntWalk.i64_in _ (by omega)
          obtain ⟨t, htk⟩ : ∃ t, ts[i]? = some t := ⟨_, List.getElem?_eq_getElem (by rw [HNL.out]; exact hik)⟩
          have hbwr := hb6.trans (hbr2.mono hb6.size)
          obtain ⟨c0, c1, c2, c3⟩ := HC.out i t htk
          have r0 := (hbwr.cell (p := ⟨b, off + i * 4, none⟩) hbl).trans c0
          have r1 := (hbwr.cell (p := ⟨b, off + i * 4 + 1, none⟩) hbl).trans c1
          have r2 := (hbwr.cell (p := ⟨b, off + i * 4 + 2, none⟩) hbl).trans c2
          have r3 := (hbwr.cell (p := ⟨b, off + i * 4 + 3, none⟩) hbl).trans c3
          have HIT := Lib.hid (HIN.out t (List.mem_of_getElem? htk))
          have HGS := Lib.hid (goods_step ts i t htk)
          have HGA := Lib.hid (goods_at ts i t htk)
          obtain ⟨kd, wd, nm, pl⟩ := t
          simp only at r0 r1 r2 r3
          obtain ⟨ik, inn, isz⟩ := HIT.out
          simp only at ik inn isz
          have hR0 := fun v : World => rspell_any (k := kd) (wd := wd) (n := nm) (a := pl) (w := v) ik inn.1 inn.2 (by omega)
          obtain ⟨S, hS⟩ : ∃ S, spelledL kd wd.data.toList nm = S := ⟨_, rfl⟩
          obtain ⟨B, hB⟩ : ∃ B, spellB S kd wd.data.toList nm = B := ⟨_, rfl⟩
          rw [hS, hB] at hR0
          have HOKB : Hid (okB ⟨kd, wd, nm, pl⟩ = B) := Lib.hid (by rw [← hB, ← hS]; rfl)
          obtain ⟨S2, hS2⟩ : ∃ S2 : ByteArray, (⟨S.toArray⟩ : ByteArray) = S2 := ⟨_, rfl⟩
          have HR := Lib.hid hR0
          clear hR0 hS hB hS2 ik inn isz c0 c1 c2 c3 htk
          cases B with
          | false =>
            have hg : good ⟨kd, wd, nm, pl⟩ = false := by unfold good; rw [HOKB.out]; rfl
            have HJ2 : Hid (j = (goods (ts.take (i + 1))).length) := Lib.hid (by rw [HGS.out, hg, HJ.out]; simp)
            clear hg
            go_wp2_with fail
            refine (HR.out _).mono ?_; rintro e w7 ⟨hb7, rfl⟩
            have hT7 : Tk R9 wr.heap.size kd wd nm pl w7 := (hb7.block _ (by simp)).trans (Tk.made wr)
            have hb7 : Below wr.heap.size wr w7 := ((Below.refl _ _).alloc (Nat.le_refl _) _).trans (hb7.mono (by simp))
            have g0 := hT7.c0
            have g1 := hT7.c1
            have g2 := hT7.c2
            have BR := hbr2.trans (hb7.mono hbr2.size)
            go_wp2_with fail
            exact ⟨⟨i + 1, j, rfl, vint (by omega), by omega, by omega, HJ2, BR⟩, by simp only [intOf]; omega⟩
          | true =>
            by_cases h0 : kd = 0
            · have hg : good ⟨kd, wd, nm, pl⟩ = false := by unfold good; rw [h0]; simp
              have HJ2 : Hid (j = (goods (ts.take (i + 1))).length) := Lib.hid (by rw [HGS.out, hg, HJ.out]; simp)
              have h0c : (kd == 0) = true := by rw [h0]; rfl
              clear hg h0
              go_wp2_with fail
              refine (HR.out _).mono ?_; rintro e w7 ⟨hb7, rfl⟩
              have hT7 : Tk R9 wr.heap.size kd wd nm pl w7 := (hb7.block _ (by simp)).trans (Tk.made wr)
              have hb7 : Below wr.heap.size wr w7 := ((Below.refl _ _).alloc (Nat.le_refl _) _).trans (hb7.mono (by simp))
              have g0 := hT7.c0
              have g1 := hT7.c1
              have g2 := hT7.c2
              have BR := hbr2.trans (hb7.mono hbr2.size)
              go_wp2_with fail
              exact ⟨⟨i + 1, j, rfl, vint (by omega), by omega, by omega, HJ2, BR⟩, by simp only [intOf]; omega⟩
            · have hg : good ⟨kd, wd, nm, pl⟩ = true := by unfold good; rw [HOKB.out]; simpa using h0
              have HJ2 : Hid (j + 1 = (goods (ts.take (i + 1))).length) := Lib.hid (by rw [HGS.out, hg, HJ.out]; simp)
              have h0c : (kd == 0) = false := by rw [beq_eq_false_iff_ne]; exact h0
              have hk0 := (spellB_in HOKB.out).1
              have hga := HGA.out hg
              rw [← HJ.out] at hga
              have hjq : j < q := by
                have := (List.getElem?_eq_some_iff.1 hga).1
                rw [hQL.out] at this; exact this
              have hjm : j < m.length := by rw [HM2.out]; exact hjq
              obtain ⟨u, hu⟩ : ∃ u, m[j]? = some u := ⟨_, List.getElem?_eq_getElem hjm⟩
              obtain ⟨s1, s2, s3⟩ := HM4.out j u _ hu hga
              obtain ⟨q0, q1, q2, q3⟩ := (hr.out.below hbr2 hg2) j u (by rw [List.getElem?_append_left hjm]; exact hu)
              have e0 : (u.kind : Int) = kd := by rw [s1]; exact Int.toNat_of_nonneg hk0
              have e1 : (⟨u.word.toArray⟩ : ByteArray) = wd := by rw [s2]; rfl
              have e2 : u.num = nm := s3
              rw [e0] at q0
              rw [e1] at q1
              rw [e2] at q2
              have hjl : (j : Int) < ((q + 1 : Nat) : Int) := by omega
              have hgw : g < wr.heap.size := Nat.lt_of_lt_of_le hg2 hbr2.size
              have HU := Lib.hid q0
              have HU1 := Lib.hid q1
              have HU2 := Lib.hid q2
              clear hg h0 hk0 hga hjm hu s1 s2 s3 e0 e1 e2 q0 q1 q2 q3
              go_wp2_with fail
              refine (HR.out _).mono ?_; rintro e w7 ⟨hb7, rfl⟩
              have hT7 : Tk R9 wr.heap.size kd wd nm pl w7 := (hb7.block _ (by simp)).trans (Tk.made wr)
              have hb7 : Below wr.heap.size wr w7 := ((Below.refl _ _).alloc (Nat.le_refl _) _).trans (hb7.mono (by simp))
              have g0 := hT7.c0
              have g1 := hT7.c1
              have g2 := hT7.c2
              have BR := hbr2.trans (hb7.mono hbr2.size)
              have q0 := (hb7.cell (p := ⟨g, j * 4, none⟩) hgw).trans HU.out
              have q1 := (hb7.cell (p := ⟨g, j * 4 + 1, none⟩) hgw).trans HU1.out
              have q2 := (hb7.cell (p := ⟨g, j * 4 + 2, none⟩) hgw).trans HU2.out
              go_wp2_with fail
              go_quiet (fail)
              go_wp2_with fail
              exact ⟨⟨i + 1, j + 1, vint (by omega), vint (by omega), by omega, by omega, HJ2, below_drew BR _⟩, by simp only [intOf]; omega⟩
        · have hdec2 : decide ((i : Int) < (40 : Int)) = false := by rw [decide_eq_false_iff_not]; omega
          have hii : ¬ (i : Int) < (40 : Int) := by omega
          have hbwr := hb6.trans (hbr2.mono hb6.size)
          go_wp2_with fail
          go_ret
          exact ⟨rfl, hbwr⟩
/-- LexSpells, whatever the tokens (of bounded words). -/
theorem spells_walk (v : Value) (w : World) (hs : ∃ ts, ToksAt w v ts ∧ ∀ t ∈ ts, InR t) (ht : Pow10 w) (hv : ErrVar w) (hm : MaxV w) :
    Calls Tryz.prog 3 #[v] w (Back (.bool true) w) := by
  obtain ⟨ts, hs, hin⟩ := hs
  rcases hs with ⟨_, av, acap, rfl⟩ | ⟨b, off, cap, rfl, h1, h2, h3, h4⟩
  · exact spells_none w av acap hv
  · by_cases hne : ts = []
    · subst hne; exact spells_none w (some ⟨b, off, none⟩) cap hv
    · by_cases h40 : ts.length ≤ 40
      · exact spells_few w ts b off cap hne h40 h1 h2 h3 h4 hin ht hm hv
      · have hl : (ts.take 40).length = 40 := by rw [List.length_take]; omega
        refine spells_many w (ts.take 40) ts.length b off cap (by intro e; rw [e] at hl; simp at hl) (by omega) hl h1 h2 h3 (fun i t hi => ?_) (fun t ht => hin t (List.mem_of_mem_take ht)) ht hm hv
        have hi40 : i < 40 := by have := (List.getElem?_eq_some_iff.1 hi).1; omega
        rw [List.getElem?_take_of_lt hi40] at hi
        exact h4 i t hi
end Lx
end Go.Proofs.YtpfaldcfnhjlgaaGreatDoor
namespace Go.Proofs.YtpfaldcfnhjlgaaGreatDoor
open Go Go.ChangeShapes Go.WideShapes Go.Deep
namespace Lx
section
variable {H : Type} {enc : TypeId × Value → H} {P : Program} {w : World} {base : Nat} {spare : Nat → Bool} {held : Bool}
theorem open_slice_fields {t e : TypeId} {fs : Array Field} {fuel : Nat} {cs : List Value} {x : DataW H × List MemPlace} (ht : P.underlying t = some (.slice e)) (he : P.underlying e = some (.struct fs))
    (hone : oneCellFields P fs = true) (hC : P.cellsOf e = fs.size) (h : DataW.trod enc P w base spare held fuel t cs = some x) :
    (cs = [.slice none 0 0] ∧ x = (.nil, [])) ∨
    ∃ (a : Addr) (len cap m : Nat) (D : Nat → DataW H) (Pl : Nat → List MemPlace), cs = [.slice (some a) len cap] ∧ base ≤ a.block ∧ len ≤ cap ∧ cap ≤ maxLen ∧ m = (if spare a.block then cap else len) ∧
      x = (.slice ((List.range len).map D) ((List.range (m - len)).map fun j => D (len + j)), MemPlace.row a (m * fs.size) ++ (List.range m).flatMap Pl) ∧
      ∀ i, i < m → ∃ (ys : List (DataW H × List MemPlace)) (n : Nat), D i = .agg (ys.map (·.1)) ∧ Pl i = ys.flatMap (·.2) ∧ ys.length = fs.size ∧
        ∀ (j : Nat) (f : Field), fs[j]? = some f → ∃ (v : Value) (y : DataW H × List MemPlace), w.cell? (a.add (i * fs.size + j)) = some v ∧ ys[j]? = some y ∧ DataW.trod enc P w base spare held n f.type [v] = some y := by
  rcases open_slice ht h with h0 | ⟨a, len, cap, m, n, D, Pl, hcs, hb, hl, hm, hmm, hx, hi⟩
  · exact .inl h0
  · refine .inr ⟨a, len, cap, m, D, Pl, hcs, hb, hl, hm, hmm, by rw [hC] at hx; exact hx, fun i him => ?_⟩
    obtain ⟨cs', hc, ht'⟩ := hi i him
    rw [hC] at hc
    obtain ⟨ys, n', hn', hy, hlen, hyl, hf⟩ := DataW.trod_struct he ht'
    obtain ⟨_, hcl, hat⟩ := World.cells?_some hc
    simp only [Prod.mk.injEq] at hy
    refine ⟨ys, n', hy.1, hy.2, hyl, fun j f hj => ?_⟩
    obtain ⟨ho, hk⟩ := hone_of hone j f hj
    have hjl : j < fs.size := (Array.getElem?_eq_some_iff.1 hj).1
    have hcell := hat j hjl
    have hv : cs'[j]? = some (cs'[j]'(by omega)) := List.getElem?_eq_getElem (by omega)
    have h1 := hf j f hj
    rw [ho, hk] at h1
    have hone' : (cs'.drop j).take 1 = [cs'[j]'(by omega)] := by
      rw [List.drop_eq_getElem_cons (by omega)]
      rfl
    rw [hone'] at h1
    have hys : ys[j]? = some (ys[j]'(by omega)) := List.getElem?_eq_getElem (by omega)
    refine ⟨_, _, ?_, hys, h1.trans hys⟩
    rw [← Go.Deep.add_add, hcell, hv]
end
end Lx
end Go.Proofs.YtpfaldcfnhjlgaaGreatDoor
namespace Go.Proofs.YtpfaldcfnhjlgaaGreatDoor
open Go Go.RowKit Go.ChangeShapes Go.WideShapes
theorem Lx.cells_tok : Tryz.prog.cellsOf 25 = 4 := by kernel_rfl
/-- A member's bulk is no more than all its fellows' together. -/
theorem Lx.bulk_mem {H : Type} {d : DataW H} : ∀ {ds : List (DataW H)}, d ∈ ds → Rows.uptoBulk d ≤ Rows.uptoBulkAll ds
  | [], h => by cases h
  | e :: r, h => by
    unfold Rows.uptoBulkAll
    rcases List.mem_cons.1 h with rfl | h
    · omega
    · have := Lx.bulk_mem h; omega
theorem Lx.list_of {α : Type} {Q : Nat → α → Prop} : ∀ n : Nat, (∀ i, i < n → ∃ t, Q i t) → ∃ ts : List α, ts.length = n ∧ ∀ i t, ts[i]? = some t → Q i t
  | 0, _ => ⟨[], rfl, fun i t h => by simp at h⟩
  | n + 1, h => by
    obtain ⟨ts, hl, hq⟩ := Lx.list_of n (fun i hi => h i (by omega))
    obtain ⟨t, ht⟩ := h n (by omega)
    refine ⟨ts ++ [t], by simp [hl], fun i u hu => ?_⟩
    by_cases hi : i < n
    · rw [List.getElem?_append_left (by omega)] at hu
      exact hq i u hu
    · have hin : i = n := by
        have := (List.getElem?_eq_some_iff.1 hu).1
        simp [hl] at this; omega
      subst hin
      rw [← hl, List.getElem?_append_right (Nat.le_refl _), Nat.sub_self] at hu
      simp at hu
      subst hu; exact ht
theorem Lx.toks_of {H : Type} {enc : TypeId × Value → H} {W : World} {v : Value} {d : DataW H} {p : List MemPlace} (h : DataW.Trod enc Tryz.prog W 0 (fun _ => true) true 22 v d p) (hv : ∃ a len cap, v = .slice a len cap) (lt : ∀ x ∈ p, x.block < W.heap.size) (hb : Rows.uptoBulk d ≤ 1048576) : ∃ ts, Lx.ToksAt W v ts ∧ ∀ t ∈ ts, Lx.InR t := by
  obtain ⟨a0, len, cap, rfl⟩ := hv
  obtain ⟨fuel, hf⟩ := h
  rcases Lx.open_slice_fields Tryz.underlying22 Tryz.underlying25 (by kernel_rfl) Lx.cells_tok hf with ⟨hcs, hx⟩ | ⟨a, len', cap', m, D, Pl, hcs, _, hl, hm, hmm, hx, hi⟩
  · simp [Value.cells] at hcs
    obtain ⟨rfl, rfl, rfl⟩ := hcs
    exact ⟨[], .inl ⟨rfl, _, _, rfl⟩, by simp⟩
  · simp [Value.cells] at hcs
    obtain ⟨rfl, rfl, rfl⟩ := hcs
    simp only [Prod.mk.injEq] at hx
    obtain ⟨rfl, rfl⟩ := hx
    simp only [if_true] at hmm
    subst hmm
    have hbk := hb
    unfold Rows.uptoBulk at hbk
    have H : ∀ i, i < len → ∃ t : Lx.Raw, (W.cell? (a.add (i * 4)) = some (.int .i64 t.kd) ∧ W.cell? (a.add (i * 4 + 1)) = some (.string t.wd) ∧ W.cell? (a.add (i * 4 + 2)) = some (.int .i64 t.nm) ∧ W.cell? (a.add (i * 4 + 3)) = some (.int .i64 t.pl)) ∧ Lx.InR t := by
      intro i hil
      obtain ⟨ys, n, hD, hPl, hyl, hf⟩ := hi i (by omega)
      obtain ⟨v0, y0, hc0, hy0, ht0⟩ := hf 0 _ rfl
      obtain ⟨v1, y1, hc1, hy1, ht1⟩ := hf 1 _ rfl
      obtain ⟨v2, y2, hc2, hy2, ht2⟩ := hf 2 _ rfl
      obtain ⟨v3, y3, hc3, hy3, ht3⟩ := hf 3 _ rfl
      obtain ⟨n0, e0, x0, b0⟩ := DataW.trod_int Tryz.underlying3 ht0
      obtain ⟨s1, e1, x1, b1⟩ := DataW.trod_string Tryz.underlying9 ht1
      obtain ⟨n2, e2, x2, b2⟩ := DataW.trod_int Tryz.underlying2 ht2
      obtain ⟨n3, e3, x3, b3⟩ := DataW.trod_int Tryz.underlying3 ht3
      have hmem : D i ∈ (List.range len).map D := List.mem_map.2 ⟨i, List.mem_range.2 hil, rfl⟩
      have h1 := Lx.bulk_mem hmem
      have h2 : y1.1 ∈ ys.map (·.1) := List.mem_map.2 ⟨y1, List.mem_of_getElem? hy1, rfl⟩
      have h3 := Lx.bulk_mem h2
      rw [hD] at h1
      unfold Rows.uptoBulk at h1
      rw [x1] at h3
      simp only at h3
      have h4 : s1.data.toList.length ≤ Rows.uptoBulk (.lit (.string s1.data.toList) : DataW H) := by unfold Rows.uptoBulk; omega
      have hsz : s1.data.toList.length = s1.size := rfl
      simp only [List.cons.injEq, and_true] at e0 e1 e2 e3
      subst e0; subst e1; subst e2; subst e3
      refine ⟨⟨n0, s1, n2, n3⟩, ⟨by simpa using hc0, by simpa using hc1, by simpa using hc2, by simpa using hc3⟩, ?_, ?_, ?_⟩
      · have hw := b0; simp only [Lit.wf, Bool.and_eq_true, decide_eq_true_eq] at hw; exact hw
      · have hw := b2; simp only [Lit.wf, Bool.and_eq_true, decide_eq_true_eq] at hw; exact hw
      · show s1.size ≤ 1048576
        omega
    by_cases hl0 : len = 0
    · subst hl0; exact ⟨[], .inl ⟨rfl, _, _, rfl⟩, by simp⟩
    · obtain ⟨ts, htl, htq⟩ := Lx.list_of len H
      obtain ⟨b, off, spot⟩ := a
      have hspot : spot = none := by
        obtain ⟨t, ⟨hc, _⟩, _⟩ := H 0 (by omega)
        simpa [Addr.add] using World.cell?_spot hc
      subst hspot
      have hbW : b < W.heap.size := lt (.cell b off) (List.mem_append_left _ (MemPlace.mem_row.2 ⟨0, by simp; omega, by simp⟩))
      refine ⟨ts, .inr ⟨b, off, _, by rw [htl], hbW, by omega, hm, fun i t hi => ?_⟩, fun t ht => ?_⟩
      · obtain ⟨⟨h0, h1, h2, h3⟩, _⟩ := htq i t hi
        rw [add_plain] at h0 h1 h2 h3
        exact ⟨h0, by rw [Nat.add_assoc]; exact h1, by rw [Nat.add_assoc]; exact h2, by rw [Nat.add_assoc]; exact h3⟩
      · obtain ⟨i, hi⟩ := List.getElem?_of_mem ht
        exact (htq i t hi).2
end Go.Proofs.YtpfaldcfnhjlgaaGreatDoor
