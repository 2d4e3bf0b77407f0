/- Package tree: walk, with a fact that holds of each node when it comes up (printed by gen_trse.py out of walk_step). -/
import Derived.Test.YtfbhokdcnjekiaaGreatDoorTrWa
set_option linter.unusedVariables false
namespace Go.Proofs.YtfbhokdcnjekiaaGreatDoor
open Go.RowKit
namespace Tr
open Bs Sm
/-- P holds of each node that comes up, in the state that it comes up in. -/
def Fits {σ : Type} (P : Nd → σ → Prop) (stp : Nd → σ → Bool × σ) : List Nd → σ → Prop
  | [], _ => True
  | x :: r, s => P x s ∧ ((stp x s).1 = true → Fits P stp r (stp x s).2)
theorem Fits_append {σ : Type} (P : Nd → σ → Prop) (stp : Nd → σ → Bool × σ) : ∀ (a b : List Nd) (s : σ), Fits P stp (a ++ b) s ↔ Fits P stp a s ∧ ((goW stp a s).1 = true → Fits P stp b (goW stp a s).2)
  | [], b, s => by simp [Fits, goW]
  | x :: a, b, s => by
    rw [List.cons_append, Fits, Fits, Fits_append P stp a b, goW]
    cases h : (stp x s).1 with
    | false => simp
    | true => simp [and_assoc]
/-- What a function does that is handed over to see nodes. -/
structure See2 {σ : Type} (X : Nat → Prop) (kf : Nat) (cap : Array Value) (Inv : σ → World → Prop) (P : Nd → σ → Prop) (stp : Nd → σ → Bool × σ) (B : Nat) (l : List Nd) : Prop where
  ent : Ent kf
  low : ∀ b, X b → b < B
  keep : ∀ s w w', Inv s w → Below w.heap.size w w' → Inv s w'
  call : ∀ x, x ∈ allL l → ∀ ka kc na nc s w, P x s → Inv s w → B ≤ w.heap.size → Tree (fun b => ¬ X b) w (.slice ka x.kids.length kc) x.kids → Rd (fun b => ¬ X b) strV w (.slice na x.names.length nc) x.names →
    Calls Tryz.prog kf (#[ndV x (.slice ka x.kids.length kc) (.slice na x.names.length nc)] ++ cap) w (fun e w' => e = .returned (.bool (stp x s).1) ∧ Inv (stp x s).2 w' ∧ But X w w')
/-- What walk does. -/
def Walks2 {σ : Type} (X : Nat → Prop) (kf : Nat) (cap : Array Value) (Inv : σ → World → Prop) (P : Nd → σ → Prop) (stp : Nd → σ → Bool × σ) (B : Nat) (l : List Nd) : Prop :=
  ∀ v s w, Inv s w → Fits P stp (allL l) s → B ≤ w.heap.size → Tree (fun b => ¬ X b) w v l → Calls Tryz.prog 58 #[v, .func (.func kf) #[] cap] w
    (fun e w' => e = .returned (.bool (goW stp (allL l) s).1) ∧ Inv (goW stp (allL l) s).2 w' ∧ But X w w')
set_option maxRecDepth 100000 in
set_option maxHeartbeats 3200000 in
theorem walk2_step {σ : Type} (X : Nat → Prop) (kf : Nat) (cap : Array Value) (Inv : σ → World → Prop) (P : Nd → σ → Prop) (stp : Nd → σ → Bool × σ) (B : Nat) (l : List Nd) (hS : See2 X kf cap Inv P stp B l)
    (IH : ∀ y, y ∈ l → Walks2 X kf cap Inv P stp B y.kids) : Walks2 X kf cap Inv P stp B l := by
  intro v s0 w hI hF hB hl
  obtain ⟨hen, hlow, hkeep, hcall⟩ := hS
  obtain ⟨a, c, rfl, hc, hm⟩ := hl.form
  obtain ⟨n, hn⟩ : ∃ n, l.length = n := ⟨_, rfl⟩
  have HN := Lib.hid hn
  unfold maxLen at hm
  rw [hn] at hl hc ⊢
  have HL := Lib.hid hl
  have HK := Lib.hid hkeep
  have HC := Lib.hid hcall
  have HI := Lib.hid hI
  have HF := Lib.hid hF
  replace IH := Lib.hid IH
  obtain ⟨R, hR⟩ : ∃ R, goW stp (allL l) s0 = R := ⟨_, rfl⟩
  rw [hR]
  have HR := Lib.hid hR
  have HLow := Lib.hid hlow
  have HB := Lib.hid hB
  unfold Ent at hen
  clear hl hn hkeep hcall hI hF hR hlow hB
  go_enter Tryz.func58, Tryz.ntmps58
  go_wp2_with fail
  go_loopw [9] (fun y wr => ∃ (k : Nat) (s : σ), y = .int .i64 (k : Int) ∧ k ≤ n ∧ Hid (Inv s wr) ∧ Hid (But X w wr) ∧ Hid (R = goW stp (allL (l.drop k)) s) ∧ Hid (Fits P stp (allL (l.drop k)) s)) (fun y _ => n - (intOf y).toNat)
  case atStart => exact ⟨0, s0, rfl, Nat.zero_le _, HI, Lib.hid (But.refl _ _), Lib.hid (by rw [List.drop_zero, HR.out]), Lib.hid (by rw [List.drop_zero]; exact HF.out)⟩
  case round =>
    obtain ⟨k, s, rfl, hk, hinv, hbr, hgo, hft⟩ := hrel
    by_cases hkn : k < n
    · have hdec : decide ((k : Int) < (n : Int)) = true := by simpa using hkn
      have hkw : IntKind.i64.wrap ((k : Int) + 1) = (k : Int) + 1 := IntWalk.i64_in _ (by omega)
      obtain ⟨gb, off, x, ka, kc, na, nc, rfl, hx, hgb, -, ⟨c0, c1, c2, c3, c4, c5⟩, hkt, hnt⟩ := (HL.out.kp hbr.out.kp).nth k hkn
      have hX := alloc_bel wr (.cells #[.int .i64 x.kind, .string ⟨x.name.toArray⟩, .int .i64 x.num, .slice ka x.kids.length kc, .slice na x.names.length nc, .int .i64 x.at_] 50)
      have hBk := Blk.made (T := 50) (cs := #[.int .i64 x.kind, .string ⟨x.name.toArray⟩, .int .i64 x.num, .slice ka x.kids.length kc, .slice na x.names.length nc, .int .i64 x.at_]) wr
      have hBs : B ≤ wr.heap.size := Nat.le_trans HB.out hbr.out.size
      have hxl := List.mem_of_getElem? hx
      have hft2 : Fits P stp (x :: (allL x.kids ++ allL (l.drop (k + 1)))) s := by
        have := hft.out
        rwa [drop_at hx, allL_cons] at this
      have hCc := HC.out x (mem_all hxl) ka kc na nc s _ hft2.1 (HK.out s _ _ hinv.out hX) (Nat.le_trans hBs hX.size) (hkt.bel hX) (hnt.below hX)
      have hdr := drop_at hx
      have hgo2 : R = goW stp (x :: (allL x.kids ++ allL (l.drop (k + 1)))) s := by rw [hgo.out, hdr, allL_cons]
      rw [goW, goW_append] at hgo2
      obtain ⟨p, hp⟩ : ∃ p, stp x s = p := ⟨_, rfl⟩
      replace hft2 := hft2.2
      rw [hp] at hCc hgo2 hft2
      obtain ⟨b, s1⟩ := p
      dsimp only at hCc hgo2 hft2
      have HFT := Lib.hid hft2
      unfold ndV at hCc
      have HCc := Lib.hid hCc
      have HG := Lib.hid hgo2
      have HBk := Lib.hid hBk
      have HX := Lib.hid hX
      have HKT := Lib.hid hkt
      have HXL := Lib.hid hxl
      have hnX : ¬ X wr.heap.size := fun h => by have := HLow.out _ h; omega
      have HNX := Lib.hid hnX
      clear hx hkt hnt hdr hgo2 hp hCc hBk hX hgo hxl hnX hft hft2
      go_wp2_with fail
      refine HCc.out.mono ?_; rintro e w1 ⟨rfl, hinv1, hbt1⟩
      have hbt2 := ((But.of HX.out).trans hbt1 : But X wr w1)
      cases b with
      | false =>
        have HR2 := HG.out
        simp only [Bool.false_eq_true, if_false] at HR2
        have HR3 := Lib.hid HR2
        have HI1 := Lib.hid hinv1
        have HT1 := Lib.hid (hbr.out.trans hbt2)
        clear HR2 hinv1 hbt1 hbt2
        go_wp2_with fail
        go_ret
        exact ⟨by rw [HR3.out]; rfl, by rw [HR3.out]; exact HI1.out, HT1.out⟩
      | true =>
        have HR2 := HG.out
        simp only [if_true] at HR2
        have hk1 := hbt1.blk HBk.out HNX.out
        have e3 := hk1.c 3 _ rfl
        have hfa := (Fits_append P stp _ _ _).1 (HFT.out rfl)
        have hIH := IH.out x HXL.out (.slice ka x.kids.length kc) s1 w1 hinv1 hfa.1 (Nat.le_trans hBs hbt2.size) (HKT.out.kp hbt2.kp)
        obtain ⟨p, hp⟩ : ∃ p, goW stp (allL x.kids) s1 = p := ⟨_, rfl⟩
        replace hfa := hfa.2
        rw [hp] at hIH HR2 hfa
        obtain ⟨b2, s2⟩ := p
        dsimp only at hIH HR2 hfa
        have HFA := Lib.hid hfa
        have HIH := Lib.hid hIH
        have HR3 := Lib.hid HR2
        have HT1 := Lib.hid (hbr.out.trans hbt2)
        clear hk1 hIH hp HR2 hinv1 hbt1 hbt2 hfa
        go_wp2_with fail
        refine HIH.out.mono ?_; rintro e w2 ⟨rfl, hinv2, hbt3⟩
        have HI2 := Lib.hid hinv2
        have HT2 := Lib.hid (HT1.out.trans hbt3)
        clear hinv2 hbt3
        cases b2 with
        | false =>
          have HR4 := HR3.out
          simp only [Bool.false_eq_true, if_false] at HR4
          have HR5 := Lib.hid HR4
          clear HR4 HR3
          go_wp2_with fail
          go_ret
          exact ⟨by rw [HR5.out]; rfl, by rw [HR5.out]; exact HI2.out, HT2.out⟩
        | true =>
          have HR4 := HR3.out
          simp only [if_true] at HR4
          have HR5 := Lib.hid HR4
          clear HR4 HR3
          go_wp2_with fail
          exact ⟨⟨k + 1, s2, by simp, by omega, HI2, HT2, HR5, Lib.hid (by first | exact HFA.out rfl | exact HFA.out trivial)⟩, by simp only [intOf]; omega⟩
    · obtain rfl : k = n := by omega
      have hdec : decide ((k : Int) < (k : Int)) = false := by simp
      have HG : Hid (R = (true, s)) := Lib.hid (by rw [hgo.out, List.drop_eq_nil_of_le (by rw [HN.out]; exact Nat.le_refl _), allL_nil]; rfl)
      clear hgo hft
      go_wp2_with fail
      go_ret
      exact ⟨by rw [HG.out]; rfl, by rw [HG.out]; exact hinv.out, hbr.out⟩
theorem walk2_all {σ : Type} (X : Nat → Prop) (kf : Nat) (cap : Array Value) (Inv : σ → World → Prop) (P : Nd → σ → Prop) (stp : Nd → σ → Bool × σ) (B : Nat) :
    ∀ (m : Nat) (l : List Nd), cntL l < m → See2 X kf cap Inv P stp B l → Walks2 X kf cap Inv P stp B l
  | 0, l, h, _ => by omega
  | m + 1, l, h, hS => walk2_step X kf cap Inv P stp B l hS (fun y hy => walk2_all X kf cap Inv P stp B m y.kids (by have := cnt_mem hy; omega)
      ⟨hS.ent, hS.low, hS.keep, fun x hx => hS.call x (all_kids hy hx)⟩)
theorem walk2_any {σ : Type} {X : Nat → Prop} {kf : Nat} {cap : Array Value} {Inv : σ → World → Prop} {P : Nd → σ → Prop} {stp : Nd → σ → Bool × σ} {B : Nat} {l : List Nd} (hS : See2 X kf cap Inv P stp B l) : Walks2 X kf cap Inv P stp B l :=
  walk2_all X kf cap Inv P stp B (cntL l + 1) l (by omega) hS
theorem Walk2_any {σ : Type} {X : Nat → Prop} {kf : Nat} {cap : Array Value} {Inv : σ → World → Prop} {P : Nd → σ → Prop} {stp : Nd → σ → Bool × σ} {B : Nat} {m : Mt} {pv tv bv : Value} (hS : See2 X kf cap Inv P stp B m.body) (s : σ) (w : World)
    (hI : Inv s w) (hF : Fits P stp (allL m.body) s) (hB : B ≤ w.heap.size) (hl : Tree (fun b => ¬ X b) w bv m.body) :
    Calls Tryz.prog 21 #[mtV m pv tv bv, .func (.func kf) #[] cap] w (fun e w' => e = .returned (.bool (goW stp (allL m.body) s).1) ∧ Inv (goW stp (allL m.body) s).2 w' ∧ But X w w') := by
  have hX := alloc_bel w (.cells #[.string ⟨m.name.toArray⟩, pv, tv, .int .i64 m.prim, bv, .int .i64 m.at_] 30)
  have HC := walk2_any hS bv s _ (hS.keep s _ _ hI hX) hF (Nat.le_trans hB hX.size) (hl.bel hX)
  obtain ⟨a, c, rfl, -, -⟩ := hl.form
  unfold mtV
  have HC := Lib.hid HC
  have HX := Lib.hid hX
  clear hS hI hF hl hX
  go_enter Tryz.func21, Tryz.ntmps21
  go_wp2_with fail
  refine HC.out.mono ?_; rintro e w1 ⟨rfl, hi, hb⟩
  have HI := Lib.hid hi
  have HB := Lib.hid hb
  clear hi hb
  go_wp2_with fail
  go_ret
  exact ⟨by simp, HI.out, (But.of HX.out).trans HB.out⟩
end Tr
end Go.Proofs.YtfbhokdcnjekiaaGreatDoor
