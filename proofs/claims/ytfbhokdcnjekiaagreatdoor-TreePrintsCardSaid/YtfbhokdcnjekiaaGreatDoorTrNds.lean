/- The law's Nodes. -/
import Derived.Test.YtfbhokdcnjekiaaGreatDoorTrFew
set_option linter.unusedVariables false
namespace Go.Proofs.YtfbhokdcnjekiaaGreatDoor
open Go.RowKit
namespace Tr
open Bs Sm
theorem run_rd {α : Type} {f : α → Value} {S : Nat → Prop} (hf : ∀ x, (f x).oneCell' = true) {P : Program} {w : World} (t ty e : TypeId) (tsl : P.underlying t = some (.slice e)) (i0 : TypeInfo) (z : Value) (bytes : Nat)
  (h2 : P.info? e = some i0) (h3 : i0.zero = some z) (h4 : i0.size = 1) (h5 : i0.bytes = bytes) (h6 : z.cells.size = 1) {B0 n : Nat} {v xv : Value} {xs : List Value} {l : List α}
  (hd : w.ownsRow B0 e 1 v n xs) (hs : Rd S f w xv l) (b1 : n + l.length ≤ maxLen) (b2 : (n + l.length) * bytes ≤ 140737488355328) (hB : B0 ≤ w.heap.size) :
  ∃ v' w', (Builtin.append_ #[t, t] ty #[v, xv]).run P w = .ok v' w' ∧ w'.ownsRow B0 e 1 v' (n + l.length) (xs ++ l.map f) ∧ w.grownBy w' v.ownBlock ∧ (v'.ownBlock = v.ownBlock ∨ v'.ownBlock = some w.heap.size) := by
 obtain ⟨a, cap, rfl, hc, hm, hnone, hcell⟩ := hs
 cases a with
 | none =>
  obtain rfl := hnone rfl
  obtain rfl : l = [] := List.eq_nil_of_length_eq_zero (by omega)
  exact ⟨v, w, run_append_owned_none (P := P) (w := w) B0 t ty e i0 1 tsl h2 v n xs hd, by simpa using hd, ⟨rfl, rfl, rfl, Nat.le_refl _, fun _ _ _ => rfl⟩, .inl rfl⟩
 | some ad =>
  obtain ⟨v', w', hrun, r1, r2, _, r3⟩ := run_append_own_at (P := P) w B0 t ty e i0 z 1 bytes tsl h2 h3 h4 h5 h6 (by decide) v n xs hd ad l.length cap (l.map f) (by simp) (fun j u hj => by
   rw [List.getElem?_map] at hj
   obtain ⟨x, hx, rfl⟩ := Option.map_eq_some_iff.1 hj
   have hjl := (List.getElem?_eq_some_iff.1 hx).1
   obtain ⟨b, off, hab, _, _, hcc⟩ := hcell (by omega)
   cases hab
   have e : (⟨b, off, none⟩ : Addr).add j = ⟨b, off + j, none⟩ := by unfold Addr.add; split <;> simp_all
   rw [e]
   exact hcc j x hx) (fun u hu => by obtain ⟨x, _, rfl⟩ := List.mem_map.1 hu; exact hf x) b1 b2 hB
  exact ⟨v', w', hrun, r1, r2, r3⟩
theorem step_rd {α : Type} {f : α → Value} {S : Nat → Prop} (hf : ∀ x, (f x).oneCell' = true) {P : Program} {w : World} {ops : Array Oper} {o : Oper} {a : Act} {K : Act → World → Prop} {Q : Exit → Act → World → Prop} {E' : Prop} (hg : o.guard = none) (s x : Operand) (t e : TypeId)
  (hop : o.op = Op.call { callee := Callee.builtin Builtin.append, args := #[s, x], argTypes := #[t, t] }) (tsl : P.underlying t = some (.slice e)) (i0 : TypeInfo) (z : Value) (bytes : Nat)
  (h2 : P.info? e = some i0) (h3 : i0.zero = some z) (h4 : i0.size = 1) (h5 : i0.bytes = bytes) (h6 : z.cells.size = 1) {B0 n : Nat} {v xv : Value} {xs : List Value} {l : List α}
  (hd : w.ownsRow B0 e 1 v n xs) (hs : a.eval s = v) (hx : a.eval x = xv) (hsrc : Rd S f w xv l) (b1 : n + l.length ≤ maxLen) (b2 : (n + l.length) * bytes ≤ 140737488355328) (hB : B0 ≤ w.heap.size)
  (hK : ∀ v' w', w'.ownsRow B0 e 1 v' (n + l.length) (xs ++ l.map f) → w.grownBy w' v.ownBlock → (v'.ownBlock = v.ownBlock ∨ v'.ownBlock = some w.heap.size) → K (a.put o.dst v') w') :
  if Region.wanted o (yielded ops a.tmps) = true then Oper.wp P o a w K Q else E' := by
 have hw : Region.wanted o (yielded ops a.tmps) = true := by simp [Region.wanted, hg]
 rw [if_pos hw]
 obtain ⟨v', w', hrun, r1, r2, r3⟩ := run_rd hf t o.type e tsl i0 z bytes h2 h3 h4 h5 h6 hd hsrc b1 b2 hB
 unfold Oper.wp
 simp [execOp, hop, resolve, invoke, builtin, hs, hx, hrun, Result.andThen]
 exact hK v' w' r1 r2 r3
theorem take_snoc {l : List Nd} {k : Nat} {x : Nd} (hx : l[k]? = some x) : l.take (k + 1) = l.take k ++ [x] := by rw [List.take_add_one, hx]; rfl
def NodesOk (l : List Nd) : Prop := ∀ (v : Value) (w : World), Tree (fun _ => True) w v l →
 Calls Tryz.prog 24 #[v] w (fun e w' => Below w.heap.size w w' ∧ ∃ v', e = .returned v' ∧ OwnT 50 w.heap.size (fun b => w.heap.size ≤ b) w' v' l)
set_option maxRecDepth 100000 in
set_option maxHeartbeats 6400000 in
theorem nodes_step (l : List Nd) (hmild : Mild l) (IH : ∀ y ∈ l, NodesOk y.kids) : NodesOk l := by
 intro v w hl
 obtain ⟨i0, hi0, hz0, hz1, hz2⟩ := info_parts (show (Tryz.prog.info? 50).map (fun i => (i.zero, i.size, i.bytes)) = some (some (.agg #[.int .i64 0, .string ⟨#[]⟩, .int .i64 0, .slice none 0 0, .slice none 0 0, .int .i64 0]), 6, 88) by kernel_rfl)
 have tsl : Tryz.prog.underlying 28 = some (.slice 50) := by kernel_rfl
 obtain ⟨iI, hiI, hI0, hI1, hI2⟩ := info_parts (show (Tryz.prog.info? 9).map (fun i => (i.zero, i.size, i.bytes)) = some (some (.string ⟨#[]⟩), 1, 16) by kernel_rfl)
 have tI : Tryz.prog.underlying 22 = some (.slice 9) := by kernel_rfl
 obtain ⟨a, c, rfl, hc, hm⟩ := hl.form
 obtain ⟨n, hn⟩ : ∃ n, l.length = n := ⟨_, rfl⟩
 have HN := Lib.hid hn
 have hn200 : n ≤ 201 := by rw [← hn]; exact hmild.len
 rw [hn] at hl ⊢
 have HL := Lib.hid hl
 have HM := Lib.hid hmild
 replace IH := Lib.hid IH
 clear hl hn hmild hm hc
 go_enter Tryz.func24, Tryz.ntmps24
 go_wp2_with fail
 go_loopw [3, 8] (fun o y wr => ∃ (k : Nat), y = .int .i64 (k : Int) ∧ k ≤ n ∧ Hid (OwnT 50 w.heap.size (fun b => w.heap.size ≤ b) wr o (l.take k)) ∧ Below w.heap.size w wr) (fun _ y _ => n - (intOf y).toNat)
 case atStart => exact ⟨0, rfl, Nat.zero_le _, Lib.hid (by rw [List.take_zero]; exact OwnT.nil _ _ _ _), Below.refl _ _⟩
 case round =>
  obtain ⟨k, rfl, hk, hown, hbr⟩ := hrel
  by_cases hkn : k < n
  · have hdec : decide ((k : Int) < (n : Int)) = true := by simpa using hkn
    have hkw : IntKind.i64.wrap ((k : Int) + 1) = (k : Int) + 1 := IntWalk.i64_in _ (by omega)
    obtain ⟨gb, off, x, ka, kc, na, nc, rfl, hx, hgb, -, ⟨c0, c1, c2, c3, c4, c5⟩, hkt, hnt⟩ := (HL.out.bel hbr).nth k hkn
    have hxl := List.mem_of_getElem? hx
    have hfair := (HM.out.fair x (mem_all hxl)).2.1
    have HIH := Lib.hid (IH.out x hxl)
    have HTK := Lib.hid (take_snoc hx)
    have HTL : Hid ((l.take k).length = k) := Lib.hid (by rw [List.length_take, HN.out]; omega)
    go_upto_region 5 with fail
    have hX5 := alloc_bel wr (.cells #[.int .i64 x.kind, .string ⟨x.name.toArray⟩, .int .i64 x.num, .slice ka x.kids.length kc, .slice na x.names.length nc, .int .i64 x.at_] 45)
    have hk5 := Blk.made (T := 45) (cs := #[.int .i64 x.kind, .string ⟨x.name.toArray⟩, .int .i64 x.num, .slice ka x.kids.length kc, .slice na x.names.length nc, .int .i64 x.at_]) wr
    have hz5 : (wr.alloc (.cells #[.int .i64 x.kind, .string ⟨x.name.toArray⟩, .int .i64 x.num, .slice ka x.kids.length kc, .slice na x.names.length nc, .int .i64 x.at_] 45)).heap.size = wr.heap.size + 1 := by simp
    have hO5 := hown.out.bel hX5
    have HKT := Lib.hid (hkt.bel hX5)
    have HNT := Lib.hid (hnt.below hX5)
    obtain ⟨W5, hW5⟩ : ∃ W, wr.alloc (.cells #[.int .i64 x.kind, .string ⟨x.name.toArray⟩, .int .i64 x.num, .slice ka x.kids.length kc, .slice na x.names.length nc, .int .i64 x.at_] 45) = W := ⟨_, rfl⟩
    rw [hW5] at hX5 hk5 hz5 hO5 HKT HNT ⊢
    obtain ⟨KB, hKB⟩ : ∃ b, wr.heap.size = b := ⟨_, rfl⟩
    rw [hKB] at hk5 hz5 ⊢
    have hwKB : w.heap.size ≤ KB := by rw [← hKB]; exact hbr.size
    obtain ⟨vl, hvl, hrow, hsub⟩ := hO5
    have hown5 : ∀ b, u3.ownBlock = some b → w.heap.size ≤ b ∧ b < KB := fun b hb => by
     obtain ⟨vl', -, hr', -⟩ := hown.out
     have := hr'.lt b hb
     omega
    have hvll : vl.length = k := by have h := congrArg List.length hvl; rw [List.length_map, HTL.out] at h; exact h
    rw [hvll] at hrow
    have HVL := Lib.hid hvl
    have HVLL := Lib.hid hvll
    have HROW := Lib.hid hrow
    have HSUB := Lib.hid hsub
    have HOWN5 := Lib.hid hown5
    have HK5 := Lib.hid hk5
    have hbr5 := hbr.trans (hX5.mono hbr.size)
    have HBR5 := Lib.hid hbr5
    have hkl := hk5.lt
    have hS : ∀ v, Below W5.heap.size W5 v → (v.cell? ⟨KB, 0, none⟩ = some (.int .i64 x.kind) ∧ v.cell? ⟨KB, 1, none⟩ = some (.string ⟨x.name.toArray⟩) ∧ v.cell? ⟨KB, 2, none⟩ = some (.int .i64 x.num) ∧ v.cell? ⟨KB, 3, none⟩ = some (.slice ka x.kids.length kc) ∧ v.cell? ⟨KB, 4, none⟩ = some (.slice na x.names.length nc) ∧ v.cell? ⟨KB, 5, none⟩ = some (.int .i64 x.at_)) := fun v hv =>
     have h := HK5.out.below hv hkl
     ⟨h.c 0 _ rfl, h.c 1 _ rfl, h.c 2 _ rfl, h.c 3 _ rfl, h.c 4 _ rfl, h.c 5 _ rfl⟩
    clear hW5 hKB hX5 hk5 hvl hvll hrow hsub hown5 hown hkt hnt hx hxl c0 c1 c2 c3 c4 c5 hbr hbr5
    refine wp_region_noPanic ?_
    refine Hd.start (fun v => v.cell? ⟨KB, 0, none⟩ = some (.int .i64 x.kind) ∧ v.cell? ⟨KB, 1, none⟩ = some (.string ⟨x.name.toArray⟩) ∧ v.cell? ⟨KB, 2, none⟩ = some (.int .i64 x.num) ∧ v.cell? ⟨KB, 3, none⟩ = some (.slice ka x.kids.length kc) ∧ v.cell? ⟨KB, 4, none⟩ = some (.slice na x.names.length nc) ∧ v.cell? ⟨KB, 5, none⟩ = some (.int .i64 x.at_)) (by kernel_rfl) (hS _ (Below.refl _ W5).drew) (fun hH0 => ?_)
    refine Hd.take 0 18 (oi := ?_) (v := ?_) ?_ (by kernel_rfl) (fun _ _ _ h => h) hH0 ?_ ?_ ?_
    rotate_left 2
    · simp only [Hd.ga, Hd.gz]
      exact rfl
    · rfl
    · intro w hSw
      (try dsimp only at hSw)
      go_simp
      try with_reducible rfl
    try simp only [Act.put, Hd.sa, Hd.sz, Hd.ss]
    refine Hd.take 1 2 (oi := ?_) (v := ?_) ?_ (by kernel_rfl) (fun _ _ _ h => h) hH0 ?_ ?_ ?_
    rotate_left 2
    · simp only [Hd.ga, Hd.gs, Hd.gz]
      exact rfl
    · rfl
    · intro w hSw
      (try dsimp only at hSw)
      go_simp
      try with_reducible rfl
    try simp only [Act.put, Hd.sa, Hd.sz, Hd.ss]
    refine Hd.take 2 16 (oi := ?_) (v := ?_) ?_ (by kernel_rfl) (fun _ _ _ h => h) hH0 ?_ ?_ ?_
    rotate_left 2
    · simp only [Hd.ga, Hd.gs, Hd.gz]
      exact rfl
    · rfl
    · intro w hSw
      (try dsimp only at hSw)
      go_simp
      try with_reducible rfl
    try simp only [Act.put, Hd.sa, Hd.sz, Hd.ss]
    refine Hd.take 3 4 (oi := ?_) (v := ?_) ?_ (by kernel_rfl) (fun _ _ _ h => h) hH0 ?_ ?_ ?_
    rotate_left 2
    · simp only [Hd.ga, Hd.gs, Hd.gz]
      exact rfl
    · rfl
    · intro w hSw
      (try dsimp only at hSw)
      go_simp
      try with_reducible rfl
    try simp only [Act.put, Hd.sa, Hd.sz, Hd.ss]
    refine Hd.take 4 16 (oi := ?_) (v := ?_) ?_ (by kernel_rfl) (fun _ _ _ h => h) hH0 ?_ ?_ ?_
    rotate_left 2
    · simp only [Hd.ga, Hd.gs, Hd.gz]
      exact rfl
    · rfl
    · intro w hSw
      (try dsimp only at hSw)
      go_simp
      try with_reducible rfl
    try simp only [Act.put, Hd.sa, Hd.sz, Hd.ss]
    refine Hd.take 5 6 (oi := ?_) (v := ?_) ?_ (by kernel_rfl) (fun _ _ _ h => h) hH0 ?_ ?_ ?_
    rotate_left 2
    · simp only [Hd.ga, Hd.gs, Hd.gz]
      exact rfl
    · rfl
    · intro w hSw
      (try dsimp only at hSw)
      go_simp
      try with_reducible rfl
    try simp only [Act.put, Hd.sa, Hd.sz, Hd.ss]
    refine Hd.take 6 16 (oi := ?_) (v := ?_) ?_ (by kernel_rfl) (fun _ _ _ h => h) hH0 ?_ ?_ ?_
    rotate_left 2
    · simp only [Hd.ga, Hd.gs, Hd.gz]
      exact rfl
    · rfl
    · intro w hSw
      (try dsimp only at hSw)
      go_simp
      try with_reducible rfl
    try simp only [Act.put, Hd.sa, Hd.sz, Hd.ss]
    refine Hd.take 7 8 (oi := ?_) (v := ?_) ?_ (by kernel_rfl) (fun _ _ _ h => h) hH0 ?_ ?_ ?_
    rotate_left 2
    · simp only [Hd.ga, Hd.gs, Hd.gz]
      exact rfl
    · rfl
    · intro w hSw
      (try dsimp only at hSw)
      go_simp
      try with_reducible rfl
    try simp only [Act.put, Hd.sa, Hd.sz, Hd.ss]
    refine Hd.take 8 9 (oi := ?_) (v := ?_) ?_ (by kernel_rfl) (fun _ _ _ h => h) hH0 ?_ ?_ ?_
    rotate_left 2
    · simp only [Hd.ga, Hd.gs, Hd.gz]
      exact rfl
    · rfl
    · intro w hSw
      (try dsimp only at hSw)
      go_simp
      try with_reducible rfl
    try simp only [Act.put, Hd.sa, Hd.sz, Hd.ss]
    refine Hd.take 11 12 (oi := ?_) (v := ?_) ?_ (by kernel_rfl) (fun _ _ _ h => h) hH0 ?_ ?_ ?_
    rotate_left 2
    · simp only [Hd.ga, Hd.gs, Hd.gz]
      exact rfl
    · rfl
    · intro w hSw
      (try dsimp only at hSw)
      go_simp
      try with_reducible rfl
    try simp only [Act.put, Hd.sa, Hd.sz, Hd.ss]
    refine Hd.take 12 13 (oi := ?_) (v := ?_) ?_ (by kernel_rfl) (fun _ _ _ h => h) hH0 ?_ ?_ ?_
    rotate_left 2
    · simp only [Hd.ga, Hd.gs, Hd.gz]
      exact rfl
    · rfl
    · intro w hSw
      (try dsimp only at hSw)
      go_simp
      try with_reducible rfl
    try simp only [Act.put, Hd.sa, Hd.sz, Hd.ss]
    refine Hd.take 14 15 (oi := ?_) (v := ?_) ?_ (by kernel_rfl) (fun _ _ _ h => h) hH0 ?_ ?_ ?_
    rotate_left 2
    · simp only [Hd.ga, Hd.gs, Hd.gz]
      exact rfl
    · rfl
    · intro w hSw
      (try dsimp only at hSw)
      go_simp
      try with_reducible rfl
    try simp only [Act.put, Hd.sa, Hd.sz, Hd.ss]
    refine Hd.take 15 16 (oi := ?_) (v := ?_) ?_ (by kernel_rfl) (fun _ _ _ h => h) hH0 ?_ ?_ ?_
    rotate_left 2
    · simp only [Hd.ga, Hd.gs, Hd.gz]
      exact rfl
    · rfl
    · intro w hSw
      (try dsimp only at hSw)
      go_simp
      try with_reducible rfl
    try simp only [Act.put, Hd.sa, Hd.sz, Hd.ss]
    refine Hd.two 9 10 (o := ?_) (p := ?_) ?_ ?_ (by kernel_rfl) (fun K hK => ?_) (fun K hK => ?_)
    rotate_left 2
    · simp only [Hd.ga, Hd.gs, Hd.gz]
      exact rfl
    · simp only [Hd.ga, Hd.gs, Hd.gz]
      exact rfl
    · skip
      go_simp
      refine (HIH.out _ _ (HKT.out.bel (Below.refl _ W5).drew)).mono ?_; rintro e w6 ⟨hb6, v6, rfl, hO6⟩
      have hT6 := hO6.tree
      have hlo6 : ∀ g, v6.ownBlock = some g → W5.heap.size ≤ g := fun g hg => by obtain ⟨vl6, -, ho6, -⟩ := hO6; exact (ho6.lt g hg).1
      obtain ⟨fo, fl, fc, rfl⟩ : ∃ a b c, v6 = .slice a b c := by obtain ⟨vl6, -, ho6, -⟩ := hO6; obtain ⟨ao, co, h, -⟩ := own_slice ho6; exact ⟨_, _, _, h⟩
      have hb6' : Below W5.heap.size W5 w6 := (Below.refl _ W5).drew.trans (hb6.mono (Nat.le_refl _))
      have hX7 := alloc_bel w6 (.cells #[] 9)
      have HB6 := Lib.hid hb6'
      have HB7 := Lib.hid (hb6'.trans (hX7.mono hb6'.size))
      have HE7 := Lib.hid (own_mono (World.ownsRow_made (e := 9) (size := 1) w6 #[] 0 (Nat.le_refl _) (by unfold maxLen; omega) rfl) hb6'.size)
      have HT7 := Lib.hid ((hT6.mono (S' := fun b => W5.heap.size ≤ b ∧ some w6.heap.size ≠ some b) (fun b hb hl => ⟨by rcases hb with hb | hb; exact hb; exact hlo6 b hb, fun h => by cases h; omega⟩)).bel hX7)
      clear hO6 hT6 hlo6 hb6 hb6' hX7
      go_wp2_with fail
      refine hK.out _ _ (hS _ HB6.out) (fun hH1 => ?_)
      clear hK K
      try simp only [Act.put, Hd.sa, Hd.sz, Hd.ss]
      refine Hd.one 10 10 (o := ?_) ?_ (by kernel_rfl) (fun K hK => ?_)
      rotate_left 1
      · simp only [Hd.ga, Hd.gs, Hd.gz]
        exact rfl
      go_simp
      refine hK.out _ _ (hS _ HB7.out) (fun hH2 => ?_)
      clear hK K
      try simp only [Act.put, Hd.sa, Hd.sz, Hd.ss]
      refine Hd.one 13 13 (o := ?_) ?_ (by kernel_rfl) (fun K hK => ?_)
      rotate_left 1
      · simp only [Hd.ga, Hd.gs, Hd.gz]
        exact rfl
      refine step_rd (S := fun _ => True) (f := strV) (fun _ => rfl) rfl (.tmp 22) (.tmp 24) 22 9 rfl tI iI (.string ⟨#[]⟩) 16 hiI hI0 hI1 hI2 rfl (by exact HE7.out) (by simp [Act.eval]) (by simp [Act.eval]) (HNT.out.below HB7.out) (by unfold maxLen; omega) (by omega) (by exact HB7.out.size) ?_
      intro v8 w8 hown8 hg8 _
      have hb8 := HB7.out.grown hg8 HB7.out.size (fun k hk => (HE7.out.lt k hk).1)
      have hN8 : w8.ownsRow W5.heap.size 9 1 v8 x.names.length (x.names.map strV) := by simpa using hown8
      have hT8 : Tree (fun b => W5.heap.size ≤ b) w8 (.slice fo fl fc) x.kids := (HT7.out.kp ⟨hg8.size, fun b hb hl => hg8.block b hl (fun e => hb.2 e.symm)⟩).mono (fun b hb _ => hb.1)
      obtain ⟨lo, ln, lc, rfl⟩ : ∃ a b c, v8 = .slice a b c := by obtain ⟨fo, fc, h, -⟩ := own_slice hN8; exact ⟨_, _, _, h⟩
      have HB8 := Lib.hid hb8
      have HR8 := Lib.hid (Rd.of hN8)
      have HT8 := Lib.hid hT8
      clear hown8 hg8 hb8 hN8 hT8
      refine hK.out _ _ (hS _ HB8.out) (fun hH3 => ?_)
      clear hK K
      try simp only [Act.put, Hd.sa, Hd.sz, Hd.ss]
      refine Hd.take 16 17 (oi := ?_) (v := ?_) ?_ (by kernel_rfl) (fun _ _ _ h => h) hH3 ?_ ?_ ?_
      rotate_left 2
      · simp only [Hd.ga, Hd.gs, Hd.gz]
        exact rfl
      · rfl
      · intro w hSw
        (try dsimp only at hSw)
        go_simp
        try with_reducible rfl
      try simp only [Act.put, Hd.sa, Hd.sz, Hd.ss]
      have hX9 := alloc_bel w8 (.cells #[.int .i64 x.kind, .string ⟨x.name.toArray⟩, .int .i64 x.num, .slice fo fl fc, .slice lo ln lc, .int .i64 x.at_] 50)
      have HB9 := Lib.hid (HB8.out.trans (hX9.mono HB8.out.size))
      have HX9 := Lib.hid hX9
      clear hX9
      refine Hd.one 17 17 (o := ?_) ?_ (by kernel_rfl) (fun K hK => ?_)
      rotate_left 1
      · simp only [Hd.ga, Hd.gs, Hd.gz]
        exact rfl
      go_simp
      refine hK.out _ _ (hS _ HB9.out) (fun hH4 => ?_)
      clear hK K
      try simp only [Act.put, Hd.sa, Hd.sz, Hd.ss]
      have HR9 := Lib.hid (own_below HROW.out HB9.out)
      have hsz9 := HB9.out.size
      have hsz8 := HB8.out.size
      refine Hd.one 18 18 (o := ?_) ?_ (by kernel_rfl) (fun K hK => ?_)
      rotate_left 1
      · simp only [Hd.ga, Hd.gs, Hd.gz]
        exact rfl
      refine step_append_lies _ rfl (.tmp 12) (.tmp 29) 28 rfl w.heap.size 50 i0 (.agg #[.int .i64 0, .string ⟨#[]⟩, .int .i64 0, .slice none 0 0, .slice none 0 0, .int .i64 0]) 6 88 tsl hi0 hz0 hz1 hz2 rfl (by decide) _ k (flatN vl) (by simp [Act.eval]) HR9.out ⟨w8.heap.size, 0, none⟩ 1 1 [.int .i64 x.kind, .string ⟨x.name.toArray⟩, .int .i64 x.num, .slice fo fl fc, .slice lo ln lc, .int .i64 x.at_] (by simp [Act.eval]) rfl (cells6 w8 50 _ _ _ _ _ _) (fun u hu => by simp at hu; rcases hu with rfl | rfl | rfl | rfl | rfl | rfl <;> rfl) (by decide) (by unfold maxLen; omega) (by omega) (by omega) _ rfl ?_
      intro g cap w10 hown10 hg10 hat10 hlt10
      have hm9 : ∀ b, W5.heap.size ≤ b → (w.heap.size ≤ b ∧ u3.ownBlock ≠ some b) := fun b hb => ⟨by omega, fun h => by have := HOWN5.out b h; omega⟩
      have hsn := own_snoc (n := k) (S := fun b => w.heap.size ≤ b) (x := x) (kv := .slice fo fl fc) (nv := .slice lo ln lc) HVLL.out.symm hg10.size (fun y hy => ⟨(HSUB.out y hy).1.bel HB9.out, (HSUB.out y hy).2.below HB9.out⟩) ((HT8.out.bel HX9.out).mono (fun b hb _ => hm9 b hb)) ((HR8.out.below HX9.out).mono (fun b hb _ => hm9 b hb)) hown10 hg10 hat10
      rw [HVL.out, ← HTK.out] at hsn
      have hk10 := (hg10.block KB (HK5.out.below HB9.out hkl).lt (fun e => by have := HOWN5.out KB e.symm; omega)).trans (HK5.out.below HB9.out hkl)
      have hb59 := HBR5.out.trans (HB9.out.mono HBR5.out.size)
      have hb10 := hb59.grown hg10 hb59.size (fun k hk => (HOWN5.out k hk).1)
      have HSN := Lib.hid hsn
      have HB10 := Lib.hid hb10
      have HK10 := Lib.hid (show Blk 45 KB #[.int .i64 x.kind, .string ⟨x.name.toArray⟩, .int .i64 x.num, .slice ka x.kids.length kc, .slice na x.names.length nc, .int .i64 x.at_] w10 from hk10)
      clear hown10 hg10 hat10 hlt10 hsn hk10 hb10 hb59 hm9 hsz9 hsz8
      refine hK.out _ _ ⟨HK10.out.c 0 _ rfl, HK10.out.c 1 _ rfl, HK10.out.c 2 _ rfl, HK10.out.c 3 _ rfl, HK10.out.c 4 _ rfl, HK10.out.c 5 _ rfl⟩ (fun hH5 => ?_)
      clear hK K
      try simp only [Act.put, Hd.sa, Hd.sz, Hd.ss]
      refine Hd.last 19 (o := ?_) ?_ (by kernel_rfl) (by kernel_rfl) (by kernel_rfl) (fun K hK => ?_)
      rotate_left 1
      · simp only [Hd.ga, Hd.gs, Hd.gz]
        exact rfl
      go_simp
      refine hK.out _ _ ?_
      clear hK K
      try simp only [Act.put, Hd.sa, Hd.sz, Hd.ss]
      simp only [NoPanic]
      clear hS
      go_wp2_with fail
      exact ⟨⟨k + 1, by simp, by omega, HSN, HB10.out⟩, by simp only [intOf]; omega⟩
    · skip
      go_simp
      have hX6 : Below W5.heap.size W5 (W5.drew.alloc (.cells #[] 9)) := (Below.refl _ W5).drew.alloc (Nat.le_refl _) _
      have HE6 := Lib.hid (World.ownsRow_made (e := 9) (size := 1) W5.drew #[] 0 (Nat.le_refl _) (by unfold maxLen; omega) rfl)
      have HX6 := Lib.hid hX6
      refine hK.out _ _ (hS _ hX6) (fun hH1 => ?_)
      clear hK K hX6
      try simp only [Act.put, Hd.sa, Hd.sz, Hd.ss]
      refine Hd.one 9 9 (o := ?_) ?_ (by kernel_rfl) (fun K hK => ?_)
      rotate_left 1
      · simp only [Hd.ga, Hd.gs, Hd.gz]
        exact rfl
      go_simp
      refine (HIH.out _ _ (HKT.out.bel HX6.out)).mono ?_; rintro e w7 ⟨hb7, v6, rfl, hO6⟩
      have hT6 := hO6.tree
      have hlo6 : ∀ g, v6.ownBlock = some g → W5.heap.size + 1 ≤ g := fun g hg => by obtain ⟨vl6, -, ho6, -⟩ := hO6; have := (ho6.lt g hg).1; simpa using this
      obtain ⟨fo, fl, fc, rfl⟩ : ∃ a b c, v6 = .slice a b c := by obtain ⟨vl6, -, ho6, -⟩ := hO6; obtain ⟨ao, co, h, -⟩ := own_slice ho6; exact ⟨_, _, _, h⟩
      have HB7 := Lib.hid (HX6.out.trans (hb7.mono HX6.out.size))
      have HE7 := Lib.hid (own_below HE6.out hb7)
      have HT7 := Lib.hid (hT6.mono (S' := fun b => W5.heap.size ≤ b ∧ some W5.heap.size ≠ some b) (fun b hb hl => by
       have hbb : W5.heap.size + 1 ≤ b := by
        rcases hb with hb | hb
        · simpa using hb
        · exact hlo6 b hb
       exact ⟨by omega, fun h => by cases h; omega⟩))
      clear hO6 hT6 hlo6 hb7 HE6
      go_wp2_with fail
      refine hK.out _ _ (hS _ HB7.out) (fun hH2 => ?_)
      clear hK K
      try simp only [Act.put, Hd.sa, Hd.sz, Hd.ss]
      refine Hd.one 13 13 (o := ?_) ?_ (by kernel_rfl) (fun K hK => ?_)
      rotate_left 1
      · simp only [Hd.ga, Hd.gs, Hd.gz]
        exact rfl
      refine step_rd (S := fun _ => True) (f := strV) (fun _ => rfl) rfl (.tmp 22) (.tmp 24) 22 9 rfl tI iI (.string ⟨#[]⟩) 16 hiI hI0 hI1 hI2 rfl (by exact HE7.out) (by simp [Act.eval]) (by simp [Act.eval]) (HNT.out.below HB7.out) (by unfold maxLen; omega) (by omega) (by exact HB7.out.size) ?_
      intro v8 w8 hown8 hg8 _
      have hb8 := HB7.out.grown hg8 HB7.out.size (fun k hk => (HE7.out.lt k hk).1)
      have hN8 : w8.ownsRow W5.heap.size 9 1 v8 x.names.length (x.names.map strV) := by simpa using hown8
      have hT8 : Tree (fun b => W5.heap.size ≤ b) w8 (.slice fo fl fc) x.kids := (HT7.out.kp ⟨hg8.size, fun b hb hl => hg8.block b hl (fun e => hb.2 e.symm)⟩).mono (fun b hb _ => hb.1)
      obtain ⟨lo, ln, lc, rfl⟩ : ∃ a b c, v8 = .slice a b c := by obtain ⟨fo, fc, h, -⟩ := own_slice hN8; exact ⟨_, _, _, h⟩
      have HB8 := Lib.hid hb8
      have HR8 := Lib.hid (Rd.of hN8)
      have HT8 := Lib.hid hT8
      clear hown8 hg8 hb8 hN8 hT8
      refine hK.out _ _ (hS _ HB8.out) (fun hH3 => ?_)
      clear hK K
      try simp only [Act.put, Hd.sa, Hd.sz, Hd.ss]
      refine Hd.take 16 17 (oi := ?_) (v := ?_) ?_ (by kernel_rfl) (fun _ _ _ h => h) hH3 ?_ ?_ ?_
      rotate_left 2
      · simp only [Hd.ga, Hd.gs, Hd.gz]
        exact rfl
      · rfl
      · intro w hSw
        (try dsimp only at hSw)
        go_simp
        try with_reducible rfl
      try simp only [Act.put, Hd.sa, Hd.sz, Hd.ss]
      have hX9 := alloc_bel w8 (.cells #[.int .i64 x.kind, .string ⟨x.name.toArray⟩, .int .i64 x.num, .slice fo fl fc, .slice lo ln lc, .int .i64 x.at_] 50)
      have HB9 := Lib.hid (HB8.out.trans (hX9.mono HB8.out.size))
      have HX9 := Lib.hid hX9
      clear hX9
      refine Hd.one 17 17 (o := ?_) ?_ (by kernel_rfl) (fun K hK => ?_)
      rotate_left 1
      · simp only [Hd.ga, Hd.gs, Hd.gz]
        exact rfl
      go_simp
      refine hK.out _ _ (hS _ HB9.out) (fun hH4 => ?_)
      clear hK K
      try simp only [Act.put, Hd.sa, Hd.sz, Hd.ss]
      have HR9 := Lib.hid (own_below HROW.out HB9.out)
      have hsz9 := HB9.out.size
      have hsz8 := HB8.out.size
      refine Hd.one 18 18 (o := ?_) ?_ (by kernel_rfl) (fun K hK => ?_)
      rotate_left 1
      · simp only [Hd.ga, Hd.gs, Hd.gz]
        exact rfl
      refine step_append_lies _ rfl (.tmp 12) (.tmp 29) 28 rfl w.heap.size 50 i0 (.agg #[.int .i64 0, .string ⟨#[]⟩, .int .i64 0, .slice none 0 0, .slice none 0 0, .int .i64 0]) 6 88 tsl hi0 hz0 hz1 hz2 rfl (by decide) _ k (flatN vl) (by simp [Act.eval]) HR9.out ⟨w8.heap.size, 0, none⟩ 1 1 [.int .i64 x.kind, .string ⟨x.name.toArray⟩, .int .i64 x.num, .slice fo fl fc, .slice lo ln lc, .int .i64 x.at_] (by simp [Act.eval]) rfl (cells6 w8 50 _ _ _ _ _ _) (fun u hu => by simp at hu; rcases hu with rfl | rfl | rfl | rfl | rfl | rfl <;> rfl) (by decide) (by unfold maxLen; omega) (by omega) (by omega) _ rfl ?_
      intro g cap w10 hown10 hg10 hat10 hlt10
      have hm9 : ∀ b, W5.heap.size ≤ b → (w.heap.size ≤ b ∧ u3.ownBlock ≠ some b) := fun b hb => ⟨by omega, fun h => by have := HOWN5.out b h; omega⟩
      have hsn := own_snoc (n := k) (S := fun b => w.heap.size ≤ b) (x := x) (kv := .slice fo fl fc) (nv := .slice lo ln lc) HVLL.out.symm hg10.size (fun y hy => ⟨(HSUB.out y hy).1.bel HB9.out, (HSUB.out y hy).2.below HB9.out⟩) ((HT8.out.bel HX9.out).mono (fun b hb _ => hm9 b hb)) ((HR8.out.below HX9.out).mono (fun b hb _ => hm9 b hb)) hown10 hg10 hat10
      rw [HVL.out, ← HTK.out] at hsn
      have hk10 := (hg10.block KB (HK5.out.below HB9.out hkl).lt (fun e => by have := HOWN5.out KB e.symm; omega)).trans (HK5.out.below HB9.out hkl)
      have hb59 := HBR5.out.trans (HB9.out.mono HBR5.out.size)
      have hb10 := hb59.grown hg10 hb59.size (fun k hk => (HOWN5.out k hk).1)
      have HSN := Lib.hid hsn
      have HB10 := Lib.hid hb10
      have HK10 := Lib.hid (show Blk 45 KB #[.int .i64 x.kind, .string ⟨x.name.toArray⟩, .int .i64 x.num, .slice ka x.kids.length kc, .slice na x.names.length nc, .int .i64 x.at_] w10 from hk10)
      clear hown10 hg10 hat10 hlt10 hsn hk10 hb10 hb59 hm9 hsz9 hsz8
      refine hK.out _ _ ⟨HK10.out.c 0 _ rfl, HK10.out.c 1 _ rfl, HK10.out.c 2 _ rfl, HK10.out.c 3 _ rfl, HK10.out.c 4 _ rfl, HK10.out.c 5 _ rfl⟩ (fun hH5 => ?_)
      clear hK K
      try simp only [Act.put, Hd.sa, Hd.sz, Hd.ss]
      refine Hd.last 19 (o := ?_) ?_ (by kernel_rfl) (by kernel_rfl) (by kernel_rfl) (fun K hK => ?_)
      rotate_left 1
      · simp only [Hd.ga, Hd.gs, Hd.gz]
        exact rfl
      go_simp
      refine hK.out _ _ ?_
      clear hK K
      try simp only [Act.put, Hd.sa, Hd.sz, Hd.ss]
      simp only [NoPanic]
      clear hS
      go_wp2_with fail
      exact ⟨⟨k + 1, by simp, by omega, HSN, HB10.out⟩, by simp only [intOf]; omega⟩
  · obtain rfl : k = n := by omega
    have hdec : decide ((k : Int) < (k : Int)) = false := by simp
    have hall : l.take k = l := List.take_of_length_le (by rw [HN.out]; exact Nat.le_refl _)
    rw [hall] at hown
    clear hall
    go_wp2_with fail
    go_ret
    exact ⟨hbr, _, rfl, hown.out⟩
theorem nodes_all : ∀ (m : Nat) (l : List Nd), cntL l < m → Mild l → NodesOk l
 | 0, l, h, _ => by omega
 | m + 1, l, h, hm => nodes_step l hm (fun y hy => nodes_all m y.kids (by have := cnt_mem hy; omega) (hm.kids hy))
theorem nodes_any (l : List Nd) (hm : Mild l) : NodesOk l := nodes_all (cntL l + 1) l (by omega) hm
end Tr
end Go.Proofs.YtfbhokdcnjekiaaGreatDoor
