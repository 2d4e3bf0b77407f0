/- Package parse, the walk, 18: list, outside (wip/gen/gen_paw18.py prints this). -/
import Derived.Test.YtbdgoimbddlcoaaGreatDoorPaWh
set_option linter.unusedVariables false
namespace Go.Proofs.YtbdgoimbddlcoaaGreatDoor
open Go.RowKit
namespace Pa
open Bs Sm Tr
open Lx (Mv)
section
variable {b : Nat} {L : List Pt} {tb tc : Nat} {bad : Int} {a d f : Nat} {w w' w0 : World} {S S' : Nat → Prop} {K : Nat} {x : Nd}
set_option maxRecDepth 100000 in
set_option maxHeartbeats 3200000 in
theorem list_step (hL : LOk L) (h : ∀ g, g ≤ f → PA L bad g) (hP : Pr b L tb tc bad a d w) (ha : a < L.length) (hd : d ≤ 40) (hkk : isK L 11 a = true ∨ isK L 15 a = true) (hf : 16 * (L.length - a) + 1 ≤ f + 1) :
  Calls Tryz.prog 244 #[.pointer (some ⟨b, 0, none⟩)] w (NdO b L tb tc bad d (New w) (listP L bad (f + 1) d a) w) := by
 have hlen := hL.len
 have hbl := hP.blk.lt
 have htl := hP.lt
 have HPW := fun w' (hb : Below w.heap.size w w') => hP.bel hb
 have hm0 := Mv.refl b w
 have hmf : ∀ (fn : Fn) (first cap : Array Value) (w : World), (Instr.makeFunc fn first cap).run Tryz.prog w = .ok (.func fn first cap) w := fun _ _ _ _ => rfl
 obtain ⟨R, hR⟩ : ∃ R, listP L bad (f + 1) d a = R := ⟨_, rfl⟩
 rw [hR]
 rw [innerL_eq] at hR
 have hbbA := alloc_bel w (.cells #[.pointer (some ⟨b, 0, none⟩)] PPT)
 have hMkA := Blk.made (T := PPT) (cs := #[.pointer (some ⟨b, 0, none⟩)]) w
 have hszA : (w.alloc (.cells #[.pointer (some ⟨b, 0, none⟩)] PPT)).heap.size = w.heap.size + 1 := by simp
 have hP1 := hP.bel hbbA
 have hM1 := hm0.alloc (.cells #[.pointer (some ⟨b, 0, none⟩)] PPT)
 obtain ⟨W1, halA⟩ : ∃ W, w.alloc (.cells #[.pointer (some ⟨b, 0, none⟩)] PPT) = W := ⟨_, rfl⟩
 rw [halA] at hMkA hszA hP1 hM1
 clear hbbA
 have hbbB := alloc_bel W1 (.cells #[.int .i64 0, .string ⟨#[]⟩, .int .i64 0, .slice none 0 0, .slice none 0 0, .int .i64 0] NDT)
 have hMkB := Blk.made (T := NDT) (cs := #[.int .i64 0, .string ⟨#[]⟩, .int .i64 0, .slice none 0 0, .slice none 0 0, .int .i64 0]) W1
 have hszB : (W1.alloc (.cells #[.int .i64 0, .string ⟨#[]⟩, .int .i64 0, .slice none 0 0, .slice none 0 0, .int .i64 0] NDT)).heap.size = W1.heap.size + 1 := by simp
 have hP2 := hP1.bel hbbB
 have hM2 := hM1.alloc (.cells #[.int .i64 0, .string ⟨#[]⟩, .int .i64 0, .slice none 0 0, .slice none 0 0, .int .i64 0] NDT)
 have hp2 := hMkA.alloc (.cells #[.int .i64 0, .string ⟨#[]⟩, .int .i64 0, .slice none 0 0, .slice none 0 0, .int .i64 0] NDT)
 obtain ⟨W2, halB⟩ : ∃ W, W1.alloc (.cells #[.int .i64 0, .string ⟨#[]⟩, .int .i64 0, .slice none 0 0, .slice none 0 0, .int .i64 0] NDT) = W := ⟨_, rfl⟩
 rw [halB] at hMkB hszB hP2 hM2 hp2
 clear hbbB
 rw [hszA] at hMkB
 have hz2 := hMkB
 have HW := within_any (S := fun j => New w j ∧ j ≠ w.heap.size + 1) (k1 := w.heap.size) (k2 := w.heap.size + 1) (x := innerL L bad f (d + 1) a) (enters_of Tryz.func248 (by kernel_rfl) rfl) hL hP2 ha hd (by omega) (by unfold New; omega)
  (fun W hPW hd1 hmW => by
   have hsW := hmW.size
   have hpW : Blk PPT w.heap.size #[.pointer (some ⟨b, 0, none⟩)] W := (hmW.block _ (by omega) (by omega)).trans hp2
   have hzW : Blk NDT (w.heap.size + 1) z6 W := (hmW.block _ (by omega) (by omega)).trans hz2
   exact (clo_list hL h hPW ha hd1 hkk (by omega) hpW hzW (by omega) (by omega) (by omega) (by omega)).mono (fun e w' hc => hc.mono (fun j hj _ => by unfold New at *; omega)))
 rw [hR] at HW
 have HW := Lib.hid HW
 have HM2 := Lib.hid hM2
 have p2 : W2.cell? ⟨w.heap.size, 0, none⟩ = some (.pointer (some ⟨b, 0, none⟩)) := hp2.c 0 _ rfl
 clear hP1 hM1 hP2 hM2 hp2 hMkA hMkB hz2 hR h hP HPW hm0 hL
 go_enter Tryz.func244, Tryz.ntmps244
 go_wp2_with fail
 refine HW.out.mono ?_; intro e w3 ht
 cases R with
 | error y =>
  obtain ⟨rfl, hm⟩ := ht
  go_wp2_with fail
  exact ⟨rfl, rfl, But.mv hm (fun k hk => by rcases hk with hk | hk; exact .inl hk; exact .inr (by omega)) HM2.out⟩
 | ok y =>
  obtain ⟨n, a1⟩ := y
  obtain ⟨rfl, hP3, hN3, hm3⟩ := ht
  obtain ⟨la, lc, ma, mc, hB3, hT3, hN3⟩ := hN3
  have hM3 := But.mv hm3 (fun k hk => by rcases hk with hk | hk; exact .inl hk; exact .inr (by omega)) HM2.out
  unfold ndA at hB3
  have e0 := hB3.c 0 _ rfl
  have e1 := hB3.c 1 _ rfl
  have e2 := hB3.c 2 _ rfl
  have e3 := hB3.c 3 _ rfl
  have e4 := hB3.c 4 _ rfl
  have e5 := hB3.c 5 _ rfl
  have ef := hB3.fz
  have HP3 := Lib.hid hP3
  have HM3 := Lib.hid hM3
  have HT3 := Lib.hid hT3
  have HN3 := Lib.hid hN3
  clear hP3 hM3 hT3 hN3 hm3 hB3 p2 halA halB
  go_wp2_with fail
  refine bodyPost_ret (v := .agg #[.int .i64 n.kind, .string ⟨n.name.toArray⟩, .int .i64 n.num, .slice la n.kids.length lc, .slice ma n.names.length mc, .int .i64 n.at_]) (by simp [results, Tryz.results244, go_sem, ndA, e0, e1, e2, e3, e4, e5]) rfl ?_
  refine ⟨_, ⟨_, _, rfl, (HT3.out.kp (kp_set6 ?_)).mono (fun j hj _ => hj.1), (HN3.out.kp (kp_set6 ?_)).mono (fun j hj _ => hj.1)⟩, rfl, pr_far6 HP3.out (by omega) (by omega), mv_set6 HM3.out (by omega)⟩
  all_goals simp
end
end Pa
end Go.Proofs.YtbdgoimbddlcoaaGreatDoor
