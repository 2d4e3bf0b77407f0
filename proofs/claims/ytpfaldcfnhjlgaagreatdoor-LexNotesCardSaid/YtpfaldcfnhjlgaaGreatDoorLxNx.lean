/- LexNotes: the walk (wip/gen/gen_notes.py prints this). -/
import Derived.Test.YtpfaldcfnhjlgaaGreatDoorLxNw
set_option linter.unusedVariables false
namespace Go.Proofs.YtpfaldcfnhjlgaaGreatDoor
open Go.RowKit
namespace Lx
theorem StrsAt.below {w w' : World} {v : Value} {ns : List ByteArray} (h : StrsAt w v ns) (hb : Below w.heap.size w w') : StrsAt w' v ns := by
  rcases h with h | ⟨b, off, cap, hv, hlt, h1, h2, h3⟩
  · exact .inl h
  · exact .inr ⟨b, off, cap, hv, Nat.lt_of_lt_of_le hlt hb.size, h1, h2, fun i s hs => (hb.cell (p := ⟨b, _, none⟩) hlt).trans (h3 i s hs)⟩
theorem conv_one (w : World) (x : Int) : (convert 39 9 (.slice (some ⟨w.heap.size, 0, none⟩) 1 1)).run Tryz.prog (w.alloc (.cells #[.int .u8 x] 5)) = .ok (.string ⟨[UInt8.ofNat x.toNat].toArray⟩) (w.alloc (.cells #[.int .u8 x] 5)) :=
  run_convert_bytes_arg (P := Tryz.prog) (w.alloc (.cells #[.int .u8 x] 5)) 39 5 Tryz.underlying39 Tryz.underlying5 w.heap.size 0 1 1 [x] rfl (fun i hi => by
    obtain rfl : i = 0 := by omega
    simp [go_sem]) 9 Tryz.underlying9
theorem cat_bytes (a b : Bytes) : (⟨a.toArray⟩ : ByteArray) ++ (⟨b.toArray⟩ : ByteArray) = ⟨(a ++ b).toArray⟩ := ByteArray.mk_append_mk a b
theorem size_bytes (a : Bytes) : (⟨a.toArray⟩ : ByteArray).size = a.length := by simp [ByteArray.size]
/-- How long the text is at most. -/
theorem pcs_len (ns : List ByteArray) (l : List Tok) (hs : ∀ t ∈ l, Small t) (k : Nat) : (pcs ((pairs ns l).take k)).length ≤ k * 9000 := by
  have hp : ∀ x ∈ pairs ns l, (piece x.1 x.2).length ≤ 9000 := by
    intro x hx
    unfold pairs at hx
    obtain ⟨y, hy, rfl⟩ := List.mem_map.1 hx
    have hy1 : y.1 ∈ l := List.fst_mem_of_mem_zipIdx hy
    obtain ⟨s1, s2, s3, s4⟩ := hs _ hy1
    have h1 := notesL_len (noteAt ns y.2)
    have h2 := noteAt_len ns y.2
    have h3 := sp_len (y.1.kind : Int) y.1.num y.1.word (by omega) (by omega)
    unfold piece
    show (notesL (noteAt ns y.2) ++ 32 :: sp y.1).length ≤ 9000
    unfold sp
    simp; omega
  have : ∀ (m : List (Bytes × Tok)), (∀ x ∈ m, (piece x.1 x.2).length ≤ 9000) → (pcs m).length ≤ m.length * 9000 := by
    intro m
    induction m with
    | nil => intro _; simp [pcs]
    | cons x m ih =>
      intro h
      have h1 := ih fun y hy => h y (List.mem_cons_of_mem _ hy)
      have h2 := h x List.mem_cons_self
      unfold pcs at h1 ⊢
      rw [List.flatMap_cons, List.length_append, List.length_cons]
      omega
  have h1 := this ((pairs ns l).take k) fun x hx => hp x (List.mem_of_mem_take hx)
  have h2 : ((pairs ns l).take k).length ≤ k := List.length_take_le _ _
  exact Nat.le_trans h1 (Nat.mul_le_mul_right _ h2)
set_option maxRecDepth 100000 in
set_option maxHeartbeats 1600000 in
theorem notes_err (a : ByteArray) (v : Value) (w : World) (hv : ErrVar w) (p : Nat) (n : Int) (hx : allR (shortB a 1500).data.toList = .error (p, n)) :
    Calls Tryz.prog 4 #[.string a, v] w (Back (.bool true) w) := by
  have hn := (allR_err _ _ _ hx).1
  have hnb : (n != 0) = true := by simpa using hn
  obtain ⟨A1, hA1⟩ : ∃ A1, shortB a 1500 = A1 := ⟨_, rfl⟩
  have hla := shortB_le a 1500
  have SA := fun v : World => short_any a 1500 v
  rw [hA1] at hx hla SA
  have hAll := fun (v : World) (h : ErrVar v) => All_any A1 v (by omega) h
  rw [hx] at hAll
  have HA := Lib.hid hAll
  have HV := Lib.hid hv
  have SA := Lib.hid SA
  clear hv hx hn hA1 hAll hla
  go_enter Tryz.func4, Tryz.ntmps4
  go_wp2_with fail
  refine (awake_any _ HV.out).mono ?_; rintro e w1 ⟨rfl, hb1⟩
  go_wp2_with fail
  refine (SA.out _).mono ?_; rintro e w' ⟨rfl, rfl⟩
  go_wp2_with fail
  refine (HA.out _ (HV.out.below hb1)).mono ?_; rintro e w2 ⟨hb2, rfl⟩
  go_wp2_with fail
  go_ret
  exact ⟨rfl, hb1.trans (hb2.mono hb1.size)⟩
theorem Below_drewN {B : Nat} {a w : World} (h : Below B a w) (n : Nat) : Below B a (w.drewN n) := ⟨h.os, h.tape, h.output, h.size, h.block⟩
theorem placed_ok (S : Bytes) : ∀ (l : List Tok) (last : Nat), Placed S last l → ∀ u ∈ l, spellB (sp u) (u.kind : Int) u.word u.num = true
  | [], _, h => h.elim
  | t :: l, last, h => by
    obtain ⟨_, _, ⟨h3, _⟩, h4⟩ := h
    intro u hu
    rcases List.mem_cons.1 hu with rfl | hu
    · exact h3
    · rcases h4 with ⟨e, _⟩ | ⟨_, _, h5⟩
      · rw [e] at hu; cases hu
      · exact placed_ok S l _ h5 u hu
set_option maxRecDepth 100000 in
set_option maxHeartbeats 6400000 in
theorem notes_none (a : ByteArray) (w : World) (av : Option Addr) (acap : Nat) (hv : ErrVar w) (ht : Pow10 w) (hm : MaxV w) (l : List Tok) (hx : allR (shortB a 1500).data.toList = .ok l) :
    Calls Tryz.prog 4 #[.string a, .slice av 0 acap] w (Back (.bool true) w) := by
  obtain ⟨ns, hns⟩ : ∃ ns : List ByteArray, ns = [] := ⟨[], rfl⟩
  have hpl := allR_placed _ _ hx
  have hsm := allR_small _ _ hx
  have hin := (allR_in _ _ hx).1
  obtain ⟨l', t', hll, _, _⟩ := allR_last _ _ hx
  have hlne : l ≠ [] := by rw [hll]; simp
  obtain ⟨A1, hA1⟩ : ∃ A1, shortB a 1500 = A1 := ⟨_, rfl⟩
  have hla := shortB_le a 1500
  have SA := fun v : World => short_any a 1500 v
  rw [hA1] at hx hla SA hpl hin
  have hin : l.length ≤ A1.size + 1 := hin
  have hAll := fun (v : World) (h : ErrVar v) => All_any A1 v (by omega) h
  rw [hx] at hAll
  have hfin := notes_all A1.data.toList (pairs ns l) 0 ((wholeT (pairs ns l)).length + 1) 0 (by rw [pairs_snd]; exact hpl) (by omega)
  obtain ⟨m, hm1, hm2, hm3⟩ := hfin
  have hplen : (pairs ns l).length = l.length := by have := congrArg List.length (pairs_snd ns l); simpa using this
  have hm1 : allR (wholeT (pairs ns l)) = .ok m := hm1
  have hlenk := fun k => pcs_len ns l hsm k
  have HA := Lib.hid hAll
  have HV := Lib.hid hv
  have HT := Lib.hid ht
  have HM := Lib.hid hm
  have SA := Lib.hid SA
  have HSM := Lib.hid hsm
  have HLK := Lib.hid hlenk
  have HM1 := Lib.hid hm1
  have HM3 := Lib.hid hm3
  obtain ⟨nl, hnl⟩ : ∃ nl, l.length = nl := ⟨_, rfl⟩
  rw [hnl] at hin hplen
  rw [hplen] at hm2
  have hmne : m ≠ [] := by intro e; rw [e] at hm2; simp at hm2; rw [← hm2] at hnl; exact hlne (List.eq_nil_of_length_eq_zero hnl)
  have HNL := Lib.hid hnl
  have HM2 := Lib.hid hm2
  have HPLEN := Lib.hid hplen
  have hok : ∀ u ∈ l, spellB (sp u) (u.kind : Int) u.word u.num = true := placed_ok A1.data.toList l 0 hpl
  have HOK := Lib.hid hok
  clear hv ht hm hx hA1 hAll hsm hpl hnl hll hm1 hm2 hm3 hplen hlenk hok
  go_enter Tryz.func4, Tryz.ntmps4
  go_wp2_with fail
  refine (awake_any _ HV.out).mono ?_; rintro e w1 ⟨rfl, hb1⟩
  go_wp2_with fail
  refine (SA.out _).mono ?_; rintro e w' ⟨rfl, rfl⟩
  go_wp2_with fail
  refine (HA.out _ (HV.out.below hb1)).mono ?_; rintro e w2 ⟨hb2, v, rfl, hown⟩
  have hbw := hb1.trans (hb2.mono hb1.size)
  obtain ⟨g, cap, rfl, hg1, hg2, hcap, hcm, hrow⟩ := rows_of_own hown hlne
  rw [HNL.out] at hcap ⊢
  have hr := Lib.hid hrow
  clear hown hrow hb1 hb2
  go_wp2_with fail
  go_loopw [8, 31] (fun y x wr => ∃ (k : Nat) (X : Bytes), y = .string ⟨X.toArray⟩ ∧ x = .int .i64 (k : Int) ∧ k ≤ nl ∧ Hid (X = pcs ((pairs ns l).take k)) ∧ Below w2.heap.size w2 wr) (fun _ x _ => nl - (intOf x).toNat)
  case atStart => exact ⟨0, [], rfl, rfl, Nat.zero_le _, Lib.hid (by simp [pcs]), Below.refl _ _⟩
  case round =>
    obtain ⟨k, X, rfl, rfl, hk, HX, hbr⟩ := hrel
    have hXl : X.length ≤ 14000000 := by have := HLK.out k; rw [HX.out]; omega
    by_cases hkn : k < nl
    · have hdec : decide ((k : Int) < (nl : Int)) = true := by simpa using hkn
      have hkw : IntKind.i64.wrap ((k : Int) + 1) = (k : Int) + 1 := IntWalk.i64_in _ (by omega)
      obtain ⟨u, hu⟩ : ∃ u, l[k]? = some u := ⟨_, List.getElem?_eq_getElem (by rw [HNL.out]; exact hkn)⟩
      obtain ⟨r0, r1, r2, r3⟩ := (hr.out.below hbr hg2) k u hu
      have hum := List.mem_of_getElem? hu
      obtain ⟨s1, s2, s3, s4⟩ := HSM.out u hum
      have hspok := HOK.out u hum
      have hspell := fun (v : World) (h : Pow10 v) (h' : MaxV v) (h'' : ErrVar v) => Spell_any (k := (u.kind : Int)) (wd := ⟨u.word.toArray⟩) (n := u.num) (a := (u.at_ : Int)) (by omega) (by omega) (by omega) (by show u.word.length ≤ _; omega) h h' h''
      have hspu : spelledL (u.kind : Int) (⟨u.word.toArray⟩ : ByteArray).data.toList u.num = sp u := rfl
      rw [hspu, show (⟨u.word.toArray⟩ : ByteArray).data.toList = u.word from rfl, hspok] at hspell
      have hspl : (sp u).length ≤ 9000 := by
        have := sp_len (u.kind : Int) u.num u.word (by omega) (by omega)
        unfold sp; omega
      have HSTEP : Hid (pcs ((pairs ns l).take (k + 1)) = X ++ (notesL (noteAt ns k) ++ 32 :: sp u)) := by
        have := pcs_step (pairs ns l) k _ (pairs_at ns l k u hu)
        rw [← HX.out] at this
        exact Lib.hid this
      obtain ⟨W, hW⟩ : ∃ W : Bytes, sp u = W := ⟨_, rfl⟩
      rw [hW] at hspell hspl HSTEP
      obtain ⟨wd, hwd⟩ : ∃ wd : ByteArray, (⟨u.word.toArray⟩ : ByteArray) = wd := ⟨_, rfl⟩
      obtain ⟨kd, hkd⟩ : ∃ kd : Int, (u.kind : Int) = kd := ⟨_, rfl⟩
      obtain ⟨nu, hnu⟩ : ∃ nu : Int, u.num = nu := ⟨_, rfl⟩
      obtain ⟨aa, haa⟩ : ∃ aa : Int, (u.at_ : Int) = aa := ⟨_, rfl⟩
      rw [hwd] at r1 hspell
      rw [hkd] at r0 hspell
      rw [hnu] at r2 hspell
      rw [haa] at r3 hspell
      have HS := Lib.hid hspell
      clear hwd hkd hnu haa hspell hu hum s1 s2 s3 s4 hspok hspu hW
      have hno : noteAt ns k = [] := by unfold noteAt; rw [if_pos hns]
      have hsX : ((⟨X.toArray⟩ : ByteArray).size : Int) ≤ 15000000 := by rw [size_bytes]; omega
      have hsW : ((⟨W.toArray⟩ : ByteArray).size : Int) ≤ 9000 := by rw [size_bytes]; omega
      have hcw : (⟨#[32]⟩ : ByteArray) ++ ⟨W.toArray⟩ = ⟨(32 :: W).toArray⟩ := cat_bytes [32] W
      have hsW2 : ((⟨(32 :: W).toArray⟩ : ByteArray).size : Int) ≤ 9001 := by rw [size_bytes, List.length_cons]; omega
      have hcx : (⟨X.toArray⟩ : ByteArray) ++ ⟨(32 :: W).toArray⟩ = ⟨(X ++ 32 :: W).toArray⟩ := cat_bytes X (32 :: W)
      obtain ⟨S1, hS1⟩ : ∃ S1 : ByteArray, (⟨X.toArray⟩ : ByteArray) = S1 := ⟨_, rfl⟩
      obtain ⟨S2, hS2⟩ : ∃ S2 : ByteArray, (⟨W.toArray⟩ : ByteArray) = S2 := ⟨_, rfl⟩
      obtain ⟨S3, hS3⟩ : ∃ S3 : ByteArray, (⟨(32 :: W).toArray⟩ : ByteArray) = S3 := ⟨_, rfl⟩
      obtain ⟨S4, hS4⟩ : ∃ S4 : ByteArray, (⟨(X ++ 32 :: W).toArray⟩ : ByteArray) = S4 := ⟨_, rfl⟩
      rw [hS1] at hsX hcx ⊢
      rw [hS2] at hsW hcw
      rw [hS3] at hcw hsW2 hcx
      rw [hS4] at hcx
      have HS4 := Lib.hid hS4
      have HS2 := Lib.hid hS2
      clear hS1 hS2 hS3 hS4
      go_wp2_with fail
      have BT := hbr.alloc hbr.size (Obj.cells #[.int .i64 kd, .string wd, .int .i64 nu, .int .i64 aa] TT)
      have BW := hbw.trans (BT.mono hbw.size)
      refine (HS.out _ (HT.out.below BW) (HM.out.below BW) (HV.out.below BW)).mono ?_; rintro e w5 ⟨hb5, rfl⟩
      rw [if_pos rfl, HS2.out]
      have hb5 := BT.trans (hb5.mono BT.size)
      go_wp2_with fail
      exact ⟨⟨k + 1, X ++ 32 :: W, by rw [HS4.out], vint (by omega), by omega, Lib.hid (by rw [HSTEP.out, hno]; rfl), hb5⟩, by simp only [intOf]; omega⟩
    · have hdec : decide ((k : Int) < (nl : Int)) = false := by simpa using hkn
      obtain rfl : k = nl := by omega
      have hXX : X ++ [32] = wholeT (pairs ns l) := by
        rw [whole_pcs, HX.out, List.take_of_length_le (by rw [HPLEN.out]; exact Nat.le_refl _)]
      have hsX : ((⟨X.toArray⟩ : ByteArray).size : Int) ≤ 15000000 := by rw [size_bytes]; omega
      have hcx : (⟨X.toArray⟩ : ByteArray) ++ ⟨#[32]⟩ = ⟨(X ++ [32]).toArray⟩ := cat_bytes X [32]
      have hAll2 := fun (v : World) (h : ErrVar v) => All_any ⟨(X ++ [32]).toArray⟩ v (by rw [size_bytes, List.length_append, List.length_singleton]; omega) h
      have hdl : (⟨(X ++ [32]).toArray⟩ : ByteArray).data.toList = X ++ [32] := rfl
      rw [hdl, hXX, HM1.out] at hAll2
      rw [hXX] at hcx
      obtain ⟨S1, hS1⟩ : ∃ S1 : ByteArray, (⟨X.toArray⟩ : ByteArray) = S1 := ⟨_, rfl⟩
      obtain ⟨S2, hS2⟩ : ∃ S2 : ByteArray, (⟨(wholeT (pairs ns l)).toArray⟩ : ByteArray) = S2 := ⟨_, rfl⟩
      rw [hS1] at hsX hcx ⊢
      rw [hS2] at hcx hAll2
      have HA2 := Lib.hid hAll2
      clear hAll2 hXX hS1 hS2 hXl
      have BW := hbw.trans (hbr.mono hbw.size)
      go_wp2_with fail
      refine (HA2.out _ (HV.out.below BW)).mono ?_; rintro e w6 ⟨hb6, v, rfl, hown6⟩
      have hb6' := BW.trans (hb6.mono BW.size)
      have hrl := hr.out.below (hbr.trans (hb6.mono hbr.size)) hg2
      have hg6 : g < w6.heap.size := Nat.lt_of_lt_of_le hg2 (Nat.le_trans hbr.size hb6.size)
      obtain ⟨g2, cap2, rfl, hg21, hg22, hcap2, hcm2, hrow2⟩ := rows_of_own hown6 hmne
      rw [HM2.out] at hcap2 ⊢
      have hr1 := Lib.hid hrl
      have hr2 := Lib.hid hrow2
      clear hown6 hrl hrow2 hb6
      go_wp2_with fail
      go_loopw [93] (fun x wr => ∃ j : Nat, x = .int .i64 (j : Int) ∧ j ≤ k ∧ Below w6.heap.size w6 wr) (fun x _ => k - (intOf x).toNat)
      case atStart => exact ⟨0, rfl, Nat.zero_le _, Below.refl _ _⟩
      case round =>
        obtain ⟨j, rfl, hj, hbj⟩ := hrel
        by_cases hjn : j < k
        · have hdec2 : decide ((j : Int) < (k : Int)) = true := by simpa using hjn
          have hjw : IntKind.i64.wrap ((j : Int) + 1) = (j : Int) + 1 := IntWalk.i64_in _ (by omega)
          obtain ⟨u, hu⟩ : ∃ u, l[j]? = some u := ⟨_, List.getElem?_eq_getElem (by rw [HNL.out]; exact hjn)⟩
          obtain ⟨z, hz⟩ : ∃ z, m[j]? = some z := ⟨_, List.getElem?_eq_getElem (by rw [HM2.out]; exact hjn)⟩
          obtain ⟨h1, h2, h3⟩ := HM3.out j z (noteAt ns j, u) hz (pairs_at ns l j u hu)
          obtain ⟨r0, r1, r2, r3⟩ := (hr1.out.below hbj hg6) j u hu
          obtain ⟨q0, q1, q2, q3⟩ := (hr2.out.below hbj hg22) j z hz
          simp only at h1 h2 h3
          rw [h1] at q0
          rw [h2] at q1
          rw [h3] at q2
          clear hu hz h1 h2 h3 q3 r3
          obtain ⟨wd, hwd⟩ : ∃ wd : ByteArray, (⟨u.word.toArray⟩ : ByteArray) = wd := ⟨_, rfl⟩
          obtain ⟨kd, hkd⟩ : ∃ kd : Int, (u.kind : Int) = kd := ⟨_, rfl⟩
          obtain ⟨nu, hnu⟩ : ∃ nu : Int, u.num = nu := ⟨_, rfl⟩
          rw [hwd] at r1 q1
          rw [hkd] at r0 q0
          rw [hnu] at r2 q2
          clear hwd hkd hnu
          go_wp2_with fail
          go_quiet (fail)
          go_wp2_with fail
          exact ⟨⟨j + 1, vint (by omega), by omega, Below_drewN hbj _⟩, by simp only [intOf]; omega⟩
        · have hdec2 : decide ((j : Int) < (k : Int)) = false := by simpa using hjn
          go_wp2_with fail
          go_ret
          exact ⟨rfl, hb6'.trans (hbj.mono hb6'.size)⟩
set_option maxRecDepth 100000 in
set_option maxHeartbeats 6400000 in
theorem notes_some (a : ByteArray) (w : World) (ns : List ByteArray) (nb_ off acap : Nat) (hnne : ns ≠ []) (hbl : nb_ < w.heap.size) (hnc : ns.length ≤ acap) (hncm : acap ≤ maxLen) (hcells : ∀ i s, ns[i]? = some s → w.cell? ⟨nb_, off + i, none⟩ = some (.string s)) (hv : ErrVar w) (ht : Pow10 w) (hm : MaxV w) (l : List Tok) (hx : allR (shortB a 1500).data.toList = .ok l) :
    Calls Tryz.prog 4 #[.string a, .slice (some ⟨nb_, off, none⟩) ns.length acap] w (Back (.bool true) w) := by
  have hpl := allR_placed _ _ hx
  have hsm := allR_small _ _ hx
  have hin := (allR_in _ _ hx).1
  obtain ⟨l', t', hll, _, _⟩ := allR_last _ _ hx
  have hlne : l ≠ [] := by rw [hll]; simp
  obtain ⟨A1, hA1⟩ : ∃ A1, shortB a 1500 = A1 := ⟨_, rfl⟩
  have hla := shortB_le a 1500
  have SA := fun v : World => short_any a 1500 v
  rw [hA1] at hx hla SA hpl hin
  have hin : l.length ≤ A1.size + 1 := hin
  have hAll := fun (v : World) (h : ErrVar v) => All_any A1 v (by omega) h
  rw [hx] at hAll
  have hfin := notes_all A1.data.toList (pairs ns l) 0 ((wholeT (pairs ns l)).length + 1) 0 (by rw [pairs_snd]; exact hpl) (by omega)
  obtain ⟨m, hm1, hm2, hm3⟩ := hfin
  have hplen : (pairs ns l).length = l.length := by have := congrArg List.length (pairs_snd ns l); simpa using this
  have hm1 : allR (wholeT (pairs ns l)) = .ok m := hm1
  have hlenk := fun k => pcs_len ns l hsm k
  have HA := Lib.hid hAll
  have HV := Lib.hid hv
  have HT := Lib.hid ht
  have HM := Lib.hid hm
  have SA := Lib.hid SA
  have HSM := Lib.hid hsm
  have HLK := Lib.hid hlenk
  have HM1 := Lib.hid hm1
  have HM3 := Lib.hid hm3
  obtain ⟨nl, hnl⟩ : ∃ nl, l.length = nl := ⟨_, rfl⟩
  rw [hnl] at hin hplen
  rw [hplen] at hm2
  have hmne : m ≠ [] := by intro e; rw [e] at hm2; simp at hm2; rw [← hm2] at hnl; exact hlne (List.eq_nil_of_length_eq_zero hnl)
  have HNL := Lib.hid hnl
  have HM2 := Lib.hid hm2
  have HPLEN := Lib.hid hplen
  have hok : ∀ u ∈ l, spellB (sp u) (u.kind : Int) u.word u.num = true := placed_ok A1.data.toList l 0 hpl
  have HOK := Lib.hid hok
  obtain ⟨nn, hnn⟩ : ∃ nn, ns.length = nn := ⟨_, rfl⟩
  have HNN := Lib.hid hnn
  have HC := Lib.hid hcells
  have hnn0 : 0 < nn := by rw [← hnn]; exact List.length_pos_iff.2 hnne
  have hnni : (0 : Int) < (nn : Int) := by omega
  rw [hnn] at hnc ⊢
  have hncm2 : nn ≤ 9223372036854775807 := by unfold maxLen at hncm; omega
  clear hcells hnn
  clear hv ht hm hx hA1 hAll hsm hpl hnl hll hm1 hm2 hm3 hplen hlenk hok
  go_enter Tryz.func4, Tryz.ntmps4
  go_wp2_with fail
  refine (awake_any _ HV.out).mono ?_; rintro e w1 ⟨rfl, hb1⟩
  go_wp2_with fail
  refine (SA.out _).mono ?_; rintro e w' ⟨rfl, rfl⟩
  go_wp2_with fail
  refine (HA.out _ (HV.out.below hb1)).mono ?_; rintro e w2 ⟨hb2, v, rfl, hown⟩
  have hbw := hb1.trans (hb2.mono hb1.size)
  obtain ⟨g, cap, rfl, hg1, hg2, hcap, hcm, hrow⟩ := rows_of_own hown hlne
  rw [HNL.out] at hcap ⊢
  have hr := Lib.hid hrow
  clear hown hrow hb1 hb2
  go_wp2_with fail
  go_loopw [8, 31] (fun y x wr => ∃ (k : Nat) (X : Bytes), y = .string ⟨X.toArray⟩ ∧ x = .int .i64 (k : Int) ∧ k ≤ nl ∧ Hid (X = pcs ((pairs ns l).take k)) ∧ Below w2.heap.size w2 wr) (fun _ x _ => nl - (intOf x).toNat)
  case atStart => exact ⟨0, [], rfl, rfl, Nat.zero_le _, Lib.hid (by simp [pcs]), Below.refl _ _⟩
  case round =>
    obtain ⟨k, X, rfl, rfl, hk, HX, hbr⟩ := hrel
    have hXl : X.length ≤ 14000000 := by have := HLK.out k; rw [HX.out]; omega
    by_cases hkn : k < nl
    · have hdec : decide ((k : Int) < (nl : Int)) = true := by simpa using hkn
      have hkw : IntKind.i64.wrap ((k : Int) + 1) = (k : Int) + 1 := IntWalk.i64_in _ (by omega)
      obtain ⟨u, hu⟩ : ∃ u, l[k]? = some u := ⟨_, List.getElem?_eq_getElem (by rw [HNL.out]; exact hkn)⟩
      obtain ⟨r0, r1, r2, r3⟩ := (hr.out.below hbr hg2) k u hu
      have hum := List.mem_of_getElem? hu
      obtain ⟨s1, s2, s3, s4⟩ := HSM.out u hum
      have hspok := HOK.out u hum
      have hspell := fun (v : World) (h : Pow10 v) (h' : MaxV v) (h'' : ErrVar v) => Spell_any (k := (u.kind : Int)) (wd := ⟨u.word.toArray⟩) (n := u.num) (a := (u.at_ : Int)) (by omega) (by omega) (by omega) (by show u.word.length ≤ _; omega) h h' h''
      have hspu : spelledL (u.kind : Int) (⟨u.word.toArray⟩ : ByteArray).data.toList u.num = sp u := rfl
      rw [hspu, show (⟨u.word.toArray⟩ : ByteArray).data.toList = u.word from rfl, hspok] at hspell
      have hspl : (sp u).length ≤ 9000 := by
        have := sp_len (u.kind : Int) u.num u.word (by omega) (by omega)
        unfold sp; omega
      have HSTEP : Hid (pcs ((pairs ns l).take (k + 1)) = X ++ (notesL (noteAt ns k) ++ 32 :: sp u)) := by
        have := pcs_step (pairs ns l) k _ (pairs_at ns l k u hu)
        rw [← HX.out] at this
        exact Lib.hid this
      obtain ⟨W, hW⟩ : ∃ W : Bytes, sp u = W := ⟨_, rfl⟩
      rw [hW] at hspell hspl HSTEP
      obtain ⟨wd, hwd⟩ : ∃ wd : ByteArray, (⟨u.word.toArray⟩ : ByteArray) = wd := ⟨_, rfl⟩
      obtain ⟨kd, hkd⟩ : ∃ kd : Int, (u.kind : Int) = kd := ⟨_, rfl⟩
      obtain ⟨nu, hnu⟩ : ∃ nu : Int, u.num = nu := ⟨_, rfl⟩
      obtain ⟨aa, haa⟩ : ∃ aa : Int, (u.at_ : Int) = aa := ⟨_, rfl⟩
      rw [hwd] at r1 hspell
      rw [hkd] at r0 hspell
      rw [hnu] at r2 hspell
      rw [haa] at r3 hspell
      have HS := Lib.hid hspell
      clear hwd hkd hnu haa hspell hu hum s1 s2 s3 s4 hspok hspu hW
      obtain ⟨wo, rfl⟩ : ∃ wo : World, wo = wr := ⟨_, rfl⟩
      obtain ⟨r, hrr⟩ : ∃ r, k % nn = r := ⟨_, rfl⟩
      have hrn : r < nn := by rw [← hrr]; exact Nat.mod_lt _ hnn0
      obtain ⟨sr, hsr⟩ : ∃ sr, ns[r]? = some sr := ⟨_, List.getElem?_eq_getElem (by rw [HNN.out]; exact hrn)⟩
      obtain ⟨nb, hnb⟩ : ∃ nb, shortB sr 30 = nb := ⟨_, rfl⟩
      have hnbl : nb.size ≤ 30 := by rw [← hnb]; exact shortB_le sr 30
      have hna : noteAt ns k = nb.data.toList := by
        unfold noteAt
        rw [if_neg hnne, HNN.out, hrr, List.getD_eq_getElem?_getD, hsr, ← hnb]; rfl
      rw [hna] at HSTEP
      have hsc := fun v : World => short_any sr 30 v
      rw [hnb] at hsc
      have HSC := Lib.hid hsc
      have hrem : (k : Int) % (nn : Int) = (r : Int) := by rw [← hrr]; omega
      have hrem2 : ((k : Int)).tmod (nn : Int) = (r : Int) := by rw [Int.tmod_eq_emod_of_nonneg (by omega)]; exact hrem
      have hremw : IntKind.i64.wrap ((k : Int) % (nn : Int)) = (r : Int) := by rw [hrem]; exact IntWalk.i64_in _ (by omega)
      have BWr := hbw.trans (hbr.mono hbw.size)
      have hcl0 : wo.cell? ⟨nb_, off + r, none⟩ = some (.string sr) := (BWr.cell (p := ⟨nb_, _, none⟩) hbl).trans (HC.out r sr hsr)
      have hbl2 : nb_ < wo.heap.size := Nat.lt_of_lt_of_le hbl BWr.size
      have hal : Below wo.heap.size wo (wo.alloc (Obj.cells #[.int .i64 kd, .string wd, .int .i64 nu, .int .i64 aa] TT)) := (Below.refl _ _).alloc (Nat.le_refl _) _
      have hcl : (wo.alloc (Obj.cells #[.int .i64 kd, .string wd, .int .i64 nu, .int .i64 aa] TT)).cell? ⟨nb_, off + r, none⟩ = some (.string sr) := (hal.cell (p := ⟨nb_, _, none⟩) hbl2).trans hcl0
      have htk := Tk.made (T := TT) (kd := kd) (wd := wd) (n := nu) (a := aa) wo
      have hneb : ¬ nb_ = wo.heap.size := by omega
      have hneb2 : ¬ wo.heap.size = nb_ := by omega
      have hk0 : (0 : Int) ≤ (k : Int) := by omega
      have hri : (r : Int) < (nn : Int) := by omega
      clear hrr hsr hnb hna hsc
      go_wp2_with fail
      obtain ⟨W0, hW0⟩ : ∃ W0, wo.alloc (Obj.cells #[.int .i64 kd, .string wd, .int .i64 nu, .int .i64 aa] TT) = W0 := ⟨_, rfl⟩
      rw [hW0] at hal hcl htk ⊢
      clear hW0
      refine (HSC.out _).mono ?_; rintro e w' ⟨rfl, rfl⟩
      have hcv := Lib.run_convert_string_bytes (P := Tryz.prog) W0 9 39 5 nb Tryz.underlying9 Tryz.underlying39 Tryz.underlying5
      have hB1 := bytesWorld_below W0 5 nb
      have hB1s := Lib.bytesWorld_size W0 5 nb
      have hB1c := fun j hj => Lib.bytesWorld_cell W0 5 nb j hj
      obtain ⟨W1, hW1⟩ : ∃ W1, Lib.bytesWorld W0 5 nb = W1 := ⟨_, rfl⟩
      obtain ⟨CP, hCP⟩ : ∃ CP, grownCap W0 nb.size 0 5 = CP := ⟨_, rfl⟩
      rw [hW1, hCP] at hcv
      rw [hW1] at hB1 hB1s hB1c
      have hZ0 : wo.heap.size < W0.heap.size := htk.lt
      have hB2 : Below wo.heap.size wo W1 := hal.trans (hB1.mono hal.size)
      have htk : Tk TT wo.heap.size kd wd nu aa W1 := (hB1.block _ hZ0).trans htk
      obtain ⟨gB, hgB⟩ : ∃ gB, W0.heap.size = gB := ⟨_, rfl⟩
      rw [hgB] at hcv hB1s hB1c hZ0
      have HBC := Lib.hid hB1c
      clear hcl hW1 hCP hB1 hB1c hcl0 hal
      have BT1 := hbr.trans (hB2.mono hbr.size)
      go_wp2_with fail
      clear hcv r0 r1 r2 r3
      go_loopw [8, 49] (fun y x wr => ∃ (j : Nat) (Y : Bytes), y = .string ⟨Y.toArray⟩ ∧ x = .int .i64 (j : Int) ∧ j ≤ nb.size ∧ Hid (Y = X ++ notesL (nb.data.toList.take j)) ∧ Below W1.heap.size W1 wr) (fun _ x _ => nb.size - (intOf x).toNat)
      case atStart => exact ⟨0, X, rfl, rfl, Nat.zero_le _, Lib.hid (by simp [notesL]), Below.refl _ _⟩
      case round =>
        obtain ⟨j, Y, rfl, rfl, hj, HY, hbq⟩ := hrel
        have hYl : Y.length ≤ 14000150 := by
          have h1 := notesL_len (nb.data.toList.take j)
          have h2 : (nb.data.toList.take j).length ≤ j := List.length_take_le _ _
          rw [HY.out, List.length_append]; omega
        have BTq := BT1.trans (hbq.mono BT1.size)
        have hZ1 : wo.heap.size < W1.heap.size := by omega
        have htq : Tk TT wo.heap.size kd wd nu aa wr := (hbq.block _ hZ1).trans htk
        by_cases hjn : j < nb.size
        · have hdec3 : decide ((j : Int) < (nb.size : Int)) = true := by simpa using hjn
          have hjw : IntKind.i64.wrap ((j : Int) + 1) = (j : Int) + 1 := IntWalk.i64_in _ (by omega)
          have hcell := (hbq.cell (p := ⟨gB, j, none⟩) (show gB < W1.heap.size by omega)).trans (HBC.out j hjn)
          obtain ⟨c, hc⟩ : ∃ c, nb.data.toList.getD j 0 = c := ⟨_, rfl⟩
          rw [hc] at hcell
          have htake : nb.data.toList.take (j + 1) = nb.data.toList.take j ++ [c] := by
            rw [List.take_add_one]
            have h1 : nb.data.toList[j]? = some c := by
              have hlt : j < nb.data.toList.length := hjn
              rw [← hc, List.getD_eq_getElem?_getD, List.getElem?_eq_getElem hlt]; rfl
            rw [h1]; rfl
          have HNX : Hid (notesL (nb.data.toList.take (j + 1)) = notesL (nb.data.toList.take j) ++ (if c = 34 then [] else [34, c, 34, 10, 32])) := by rw [htake]; exact Lib.hid (notesL_app _ _)
          by_cases h34 : c = 34
          · have hcb : ((c.toNat : Int) != 34) = false := by rw [h34]; rfl
            have HE : Hid (Y = X ++ notesL (nb.data.toList.take (j + 1))) := Lib.hid (by rw [HNX.out, if_pos h34, List.append_nil]; exact HY.out)
            clear hc htake h34 HNX hYl htq
            go_wp2_with fail
            exact ⟨⟨j + 1, Y, rfl, vint (by omega), by omega, HE, hbq⟩, by simp only [intOf]; omega⟩
          · have hcb : ((c.toNat : Int) != 34) = true := by simp [bne, show ((c.toNat : Int) == 34) = false from bne_u8 c 34 (by omega) h34]
            have HE : Hid (Y ++ [34, c, 34, 10, 32] = X ++ notesL (nb.data.toList.take (j + 1))) := Lib.hid (by rw [HNX.out, if_neg h34, HY.out, List.append_assoc])
            have hconv := conv_one wr (c.toNat : Int)
            rw [Int.toNat_natCast, UInt8.ofNat_toNat] at hconv
            have hx1 : (⟨#[34]⟩ : ByteArray) ++ ⟨[c].toArray⟩ = ⟨[34, c].toArray⟩ := cat_bytes [34] [c]
            have hx2 : (⟨[34, c].toArray⟩ : ByteArray) ++ ⟨#[34, 10, 32]⟩ = ⟨[34, c, 34, 10, 32].toArray⟩ := cat_bytes [34, c] [34, 10, 32]
            have hx3 : (⟨Y.toArray⟩ : ByteArray) ++ ⟨[34, c, 34, 10, 32].toArray⟩ = ⟨(Y ++ [34, c, 34, 10, 32]).toArray⟩ := cat_bytes Y [34, c, 34, 10, 32]
            have z1 : ((⟨[c].toArray⟩ : ByteArray).size : Int) ≤ 1 := by rw [size_bytes]; simp
            have z2 : ((⟨[34, c].toArray⟩ : ByteArray).size : Int) ≤ 2 := by rw [size_bytes]; simp
            have z3 : ((⟨[34, c, 34, 10, 32].toArray⟩ : ByteArray).size : Int) ≤ 5 := by rw [size_bytes]; simp
            have z4 : ((⟨Y.toArray⟩ : ByteArray).size : Int) ≤ 14000150 := by rw [size_bytes]; omega
            obtain ⟨C1, hC1⟩ : ∃ C1 : ByteArray, (⟨[c].toArray⟩ : ByteArray) = C1 := ⟨_, rfl⟩
            obtain ⟨C2, hC2⟩ : ∃ C2 : ByteArray, (⟨[34, c].toArray⟩ : ByteArray) = C2 := ⟨_, rfl⟩
            obtain ⟨C3, hC3⟩ : ∃ C3 : ByteArray, (⟨[34, c, 34, 10, 32].toArray⟩ : ByteArray) = C3 := ⟨_, rfl⟩
            obtain ⟨C4, hC4⟩ : ∃ C4 : ByteArray, (⟨Y.toArray⟩ : ByteArray) = C4 := ⟨_, rfl⟩
            obtain ⟨C5, hC5⟩ : ∃ C5 : ByteArray, (⟨(Y ++ [34, c, 34, 10, 32]).toArray⟩ : ByteArray) = C5 := ⟨_, rfl⟩
            rw [hC1] at hconv hx1 z1
            rw [hC2] at hx1 hx2 z2
            rw [hC3] at hx2 hx3 z3
            rw [hC4] at hx3 z4 ⊢
            rw [hC5] at hx3
            have H5 := Lib.hid hC5
            clear hc htake h34 HNX hYl htq hC1 hC2 hC3 hC4 hC5
            go_wp2_with fail
            exact ⟨⟨j + 1, Y ++ [34, c, 34, 10, 32], by rw [H5.out], vint (by omega), by omega, HE, hbq.alloc hbq.size _⟩, by simp only [intOf]; omega⟩
        · have hdec3 : decide ((j : Int) < (nb.size : Int)) = false := by simpa using hjn
          obtain rfl : j = nb.size := by omega
          have HYY : Hid (Y = X ++ notesL nb.data.toList) := Lib.hid (by have h1 := HY.out; rw [List.take_of_length_le (show nb.data.toList.length ≤ nb.size from Nat.le_refl _)] at h1; exact h1)
          have g0 := htq.c0
          have g1 := htq.c1
          have g2 := htq.c2
          have g3 := htq.c3
          have BT := BTq
          have BW := hbw.trans (BT.mono hbw.size)
          have hsX : ((⟨Y.toArray⟩ : ByteArray).size : Int) ≤ 15000000 := by rw [size_bytes]; omega
          have hsW : ((⟨W.toArray⟩ : ByteArray).size : Int) ≤ 9000 := by rw [size_bytes]; omega
          have hcw : (⟨#[32]⟩ : ByteArray) ++ ⟨W.toArray⟩ = ⟨(32 :: W).toArray⟩ := cat_bytes [32] W
          have hsW2 : ((⟨(32 :: W).toArray⟩ : ByteArray).size : Int) ≤ 9001 := by rw [size_bytes, List.length_cons]; omega
          have hcx : (⟨Y.toArray⟩ : ByteArray) ++ ⟨(32 :: W).toArray⟩ = ⟨(Y ++ 32 :: W).toArray⟩ := cat_bytes Y (32 :: W)
          obtain ⟨S1, hS1⟩ : ∃ S1 : ByteArray, (⟨Y.toArray⟩ : ByteArray) = S1 := ⟨_, rfl⟩
          obtain ⟨S2, hS2⟩ : ∃ S2 : ByteArray, (⟨W.toArray⟩ : ByteArray) = S2 := ⟨_, rfl⟩
          obtain ⟨S3, hS3⟩ : ∃ S3 : ByteArray, (⟨(32 :: W).toArray⟩ : ByteArray) = S3 := ⟨_, rfl⟩
          obtain ⟨S4, hS4⟩ : ∃ S4 : ByteArray, (⟨(Y ++ 32 :: W).toArray⟩ : ByteArray) = S4 := ⟨_, rfl⟩
          rw [hS1] at hsX hcx ⊢
          rw [hS2] at hsW hcw
          rw [hS3] at hcw hsW2 hcx
          rw [hS4] at hcx
          have HS4 := Lib.hid hS4
          have HS2 := Lib.hid hS2
          clear hS1 hS2 hS3 hS4
          go_wp2_with fail
          refine (HS.out _ (HT.out.below BW) (HM.out.below BW) (HV.out.below BW)).mono ?_; rintro e w5 ⟨hb5, rfl⟩
          rw [if_pos rfl, HS2.out]
          have hb5 := BT.trans (hb5.mono BT.size)
          go_wp2_with fail
          exact ⟨⟨k + 1, Y ++ 32 :: W, by rw [HS4.out], vint (by omega), by omega, Lib.hid (by rw [HSTEP.out, HYY.out, List.append_assoc]), hb5⟩, by simp only [intOf]; omega⟩
    · have hdec : decide ((k : Int) < (nl : Int)) = false := by simpa using hkn
      obtain rfl : k = nl := by omega
      have hXX : X ++ [32] = wholeT (pairs ns l) := by
        rw [whole_pcs, HX.out, List.take_of_length_le (by rw [HPLEN.out]; exact Nat.le_refl _)]
      have hsX : ((⟨X.toArray⟩ : ByteArray).size : Int) ≤ 15000000 := by rw [size_bytes]; omega
      have hcx : (⟨X.toArray⟩ : ByteArray) ++ ⟨#[32]⟩ = ⟨(X ++ [32]).toArray⟩ := cat_bytes X [32]
      have hAll2 := fun (v : World) (h : ErrVar v) => All_any ⟨(X ++ [32]).toArray⟩ v (by rw [size_bytes, List.length_append, List.length_singleton]; omega) h
      have hdl : (⟨(X ++ [32]).toArray⟩ : ByteArray).data.toList = X ++ [32] := rfl
      rw [hdl, hXX, HM1.out] at hAll2
      rw [hXX] at hcx
      obtain ⟨S1, hS1⟩ : ∃ S1 : ByteArray, (⟨X.toArray⟩ : ByteArray) = S1 := ⟨_, rfl⟩
      obtain ⟨S2, hS2⟩ : ∃ S2 : ByteArray, (⟨(wholeT (pairs ns l)).toArray⟩ : ByteArray) = S2 := ⟨_, rfl⟩
      rw [hS1] at hsX hcx ⊢
      rw [hS2] at hcx hAll2
      have HA2 := Lib.hid hAll2
      clear hAll2 hXX hS1 hS2 hXl
      have BW := hbw.trans (hbr.mono hbw.size)
      go_wp2_with fail
      refine (HA2.out _ (HV.out.below BW)).mono ?_; rintro e w6 ⟨hb6, v, rfl, hown6⟩
      have hb6' := BW.trans (hb6.mono BW.size)
      have hrl := hr.out.below (hbr.trans (hb6.mono hbr.size)) hg2
      have hg6 : g < w6.heap.size := Nat.lt_of_lt_of_le hg2 (Nat.le_trans hbr.size hb6.size)
      obtain ⟨g2, cap2, rfl, hg21, hg22, hcap2, hcm2, hrow2⟩ := rows_of_own hown6 hmne
      rw [HM2.out] at hcap2 ⊢
      have hr1 := Lib.hid hrl
      have hr2 := Lib.hid hrow2
      clear hown6 hrl hrow2 hb6
      go_wp2_with fail
      go_loopw [93] (fun x wr => ∃ j : Nat, x = .int .i64 (j : Int) ∧ j ≤ k ∧ Below w6.heap.size w6 wr) (fun x _ => k - (intOf x).toNat)
      case atStart => exact ⟨0, rfl, Nat.zero_le _, Below.refl _ _⟩
      case round =>
        obtain ⟨j, rfl, hj, hbj⟩ := hrel
        by_cases hjn : j < k
        · have hdec2 : decide ((j : Int) < (k : Int)) = true := by simpa using hjn
          have hjw : IntKind.i64.wrap ((j : Int) + 1) = (j : Int) + 1 := IntWalk.i64_in _ (by omega)
          obtain ⟨u, hu⟩ : ∃ u, l[j]? = some u := ⟨_, List.getElem?_eq_getElem (by rw [HNL.out]; exact hjn)⟩
          obtain ⟨z, hz⟩ : ∃ z, m[j]? = some z := ⟨_, List.getElem?_eq_getElem (by rw [HM2.out]; exact hjn)⟩
          obtain ⟨h1, h2, h3⟩ := HM3.out j z (noteAt ns j, u) hz (pairs_at ns l j u hu)
          obtain ⟨r0, r1, r2, r3⟩ := (hr1.out.below hbj hg6) j u hu
          obtain ⟨q0, q1, q2, q3⟩ := (hr2.out.below hbj hg22) j z hz
          simp only at h1 h2 h3
          rw [h1] at q0
          rw [h2] at q1
          rw [h3] at q2
          clear hu hz h1 h2 h3 q3 r3
          obtain ⟨wd, hwd⟩ : ∃ wd : ByteArray, (⟨u.word.toArray⟩ : ByteArray) = wd := ⟨_, rfl⟩
          obtain ⟨kd, hkd⟩ : ∃ kd : Int, (u.kind : Int) = kd := ⟨_, rfl⟩
          obtain ⟨nu, hnu⟩ : ∃ nu : Int, u.num = nu := ⟨_, rfl⟩
          rw [hwd] at r1 q1
          rw [hkd] at r0 q0
          rw [hnu] at r2 q2
          clear hwd hkd hnu
          go_wp2_with fail
          go_quiet (fail)
          go_wp2_with fail
          exact ⟨⟨j + 1, vint (by omega), by omega, Below_drewN hbj _⟩, by simp only [intOf]; omega⟩
        · have hdec2 : decide ((j : Int) < (k : Int)) = false := by simpa using hjn
          go_wp2_with fail
          go_ret
          exact ⟨rfl, hb6'.trans (hbj.mono hb6'.size)⟩
theorem notes_walk (a : ByteArray) (v : Value) (w : World) (_ : a.size ≤ 9223372036854775807) (hs : ∃ ns, StrsAt w v ns) (ht : Pow10 w) (hv : ErrVar w) (hm : MaxV w) : Calls Tryz.prog 4 #[.string a, v] w (Back (.bool true) w) := by
  obtain ⟨ns, hs⟩ := hs
  cases hx : allR (shortB a 1500).data.toList with
  | error y => exact notes_err a v w hv y.1 y.2 hx
  | ok l =>
    rcases hs with ⟨_, av, acap, rfl⟩ | ⟨b, off, cap, rfl, h1, h2, h3, h4⟩
    · exact notes_none a w av acap hv ht hm l hx
    · by_cases hne : ns = []
      · subst hne; exact notes_none a w (some ⟨b, off, none⟩) cap hv ht hm l hx
      · exact notes_some a w ns b off cap hne h1 h2 h3 h4 hv ht hm l hx
end Lx
end Go.Proofs.YtpfaldcfnhjlgaaGreatDoor
