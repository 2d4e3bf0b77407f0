/- The lexer's law package's fixed text: its tokens. No program. · Tokens in a row, read. · The lexer's law package: awake. -/
import Derived.Test.YtpfaldcfnhjlgaaGreatDoorLxPl
import Derived.KernelRfl
import Derived.Test.YtpfaldcfnhjlgaaGreatDoorLxW17
import Derived.Test.YtpfaldcfnhjlgaaGreatDoorLxA1
set_option linter.unusedVariables false
namespace Go.Proofs.YtpfaldcfnhjlgaaGreatDoor
namespace Lx
def awakeT : Bytes := [120, 58, 61, 51, 32, 102, 111, 111, 58, 32, 35, 97, 116, 58, 112, 117, 116, 58, 32, 44, 32, 39, 105, 116, 39, 39, 115, 39]
def awakeL : List Tok := [⟨1, [120], 0, 0⟩, ⟨7, [], 0, 1⟩, ⟨3, [], 3, 3⟩, ⟨2, [102, 111, 111, 58], 0, 5⟩, ⟨5, [97, 116, 58, 112, 117, 116, 58], 0, 10⟩, ⟨6, [44], 0, 19⟩, ⟨4, [105, 116, 39, 115], 0, 21⟩, ⟨0, [], 0, 28⟩]
set_option maxRecDepth 100000 in
theorem awake_all : allR awakeT = .ok awakeL := by rfl
end Lx
end Go.Proofs.YtpfaldcfnhjlgaaGreatDoor
namespace Go.Proofs.YtpfaldcfnhjlgaaGreatDoor
open Go.RowKit
namespace Lx
/-- Block g holds tokens, one behind the other. -/
def Rows_ (g : Nat) (l : List Tok) (w : World) : Prop := ∀ i t, l[i]? = some t →
  w.cell? ⟨g, i * 4, none⟩ = some (.int .i64 (t.kind : Int)) ∧ w.cell? ⟨g, i * 4 + 1, none⟩ = some (.string ⟨t.word.toArray⟩) ∧ w.cell? ⟨g, i * 4 + 2, none⟩ = some (.int .i64 t.num) ∧ w.cell? ⟨g, i * 4 + 3, none⟩ = some (.int .i64 (t.at_ : Int))
theorem flat_at : ∀ (l : List Tok) (i : Nat) (t : Tok), l[i]? = some t → ∀ j u, (cellsT t)[j]? = some u → (flat l)[i * 4 + j]? = some u
  | [], i, t, h, _, _, _ => by simp at h
  | t' :: l, 0, t, h, j, u, hu => by
    simp at h; subst h
    have hj : j < (cellsT t').length := (List.getElem?_eq_some_iff.1 hu).1
    unfold flat; rw [List.flatMap_cons, Nat.zero_mul, Nat.zero_add, List.getElem?_append_left hj]; exact hu
  | t' :: l, i + 1, t, h, j, u, hu => by
    have ih := flat_at l i t (by simpa using h) j u hu
    unfold flat at ih ⊢
    have h4 : (cellsT t').length = 4 := rfl
    rw [List.flatMap_cons, List.getElem?_append_right (by rw [h4]; omega), h4, show (i + 1) * 4 + j - 4 = i * 4 + j by omega]
    exact ih
theorem rows_of_own {w : World} {base : Nat} {v : Value} {l : List Tok} (h : w.ownsRow base TT 4 v l.length (flat l)) (hne : l ≠ []) :
    ∃ g cap, v = .slice (some ⟨g, 0, none⟩) l.length cap ∧ base ≤ g ∧ g < w.heap.size ∧ l.length ≤ cap ∧ cap ≤ maxLen ∧ Rows_ g l w := by
  have hc := @World.ownsRow.cells _ _ _ _ _ _ _ h
  have hlt := @World.ownsRow.lt _ _ _ _ _ _ _ h
  rcases h.2 with ⟨_, h0⟩ | ⟨g, cap, cur, rfl, hb, hg, hnc, hcm, _⟩
  · exact absurd (List.eq_nil_of_length_eq_zero h0) hne
  · refine ⟨g, cap, rfl, hb, (hlt g rfl).2, hnc, hcm, fun i t ht => ?_⟩
    have hh := fun j u hu => hc (g := g) rfl (i * 4 + j) u (flat_at l i t ht j u hu)
    have ha : ∀ k : Nat, (⟨g, 0, none⟩ : Addr).add k = ⟨g, k, none⟩ := fun k => by unfold Addr.add; split <;> simp_all
    simp only [ha] at hh
    exact ⟨hh 0 _ rfl, hh 1 _ rfl, hh 2 _ rfl, hh 3 _ rfl⟩
end Lx
end Go.Proofs.YtpfaldcfnhjlgaaGreatDoor
namespace Go.Proofs.YtpfaldcfnhjlgaaGreatDoor
open Go.RowKit
namespace Lx
theorem arity2 : arityL [97, 116, 58, 112, 117, 116, 58] = 2 := by rfl
set_option maxRecDepth 100000 in
set_option maxHeartbeats 1600000 in
theorem awake_any (w : World) (hv : ErrVar w) : Calls Tryz.prog 6 #[] w (Back (.bool true) w) := by
  have hA := All_any ⟨awakeT.toArray⟩ w (by decide) hv
  rw [show (⟨awakeT.toArray⟩ : ByteArray).data.toList = awakeT from rfl, awake_all] at hA
  have HA := Lib.hid hA
  have hB := fun v : World => Arity_any ⟨#[97, 116, 58, 112, 117, 116, 58]⟩ v (by decide)
  rw [show (⟨#[97, 116, 58, 112, 117, 116, 58]⟩ : ByteArray).data.toList = [97, 116, 58, 112, 117, 116, 58] from rfl, arity2] at hB
  have HB := Lib.hid hB
  clear hA hB hv
  go_enter Tryz.func6, Tryz.ntmps6
  go_wp2_with fail
  refine HA.out.mono ?_; rintro e w1 ⟨hb, v, rfl, hown⟩
  obtain ⟨g, cap, rfl, hg1, hg2, hcap, hcm, hrow⟩ := rows_of_own hown (by simp [awakeL])
  have r1 := (hrow 1 _ rfl).1
  have r4 := (hrow 4 _ rfl).2.1
  have r6 := (hrow 6 _ rfl).2.1
  simp only [Nat.reduceMul, Nat.reduceAdd] at r1 r4 r6
  rw [show awakeL.length = 8 from rfl] at hcap ⊢
  clear hown hrow
  go_wp2_with fail
  refine (HB.out _).mono ?_; rintro e w2 ⟨rfl, hb2⟩
  go_wp2_with fail
  go_ret
  exact ⟨rfl, hb.trans (hb2.mono hb.size)⟩
end Lx
end Go.Proofs.YtpfaldcfnhjlgaaGreatDoor
