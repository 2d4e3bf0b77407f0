/- Script, the walk, 10: the law package's awake. -/
import Derived.Test.YtaaknnmnkgnbjaaDoorScW9
set_option linter.unusedVariables false
namespace Go.Proofs.YtaaknnmnkgnbjaaDoor
open Go.RowKit
namespace Sc
open Bs Sm
def awakeB : Bytes := [99, 101, 108, 108, 115, 32, 53, 48, 48, 48, 32, 35, 32, 102, 101, 119, 10, 32, 116, 105, 99, 107, 115, 32, 51, 32, 57, 10, 114, 117, 110, 32, 49, 48, 48]
theorem it5000 : Lib.itoa 5000 = [53, 48, 48, 48] := by simp [Lib.itoa, Lib.decDigits]
theorem it3 : Lib.itoa 3 = [51] := by simp [Lib.itoa, Lib.decDigits]
theorem it9 : Lib.itoa 9 = [57] := by simp [Lib.itoa, Lib.decDigits]
theorem it100 : Lib.itoa 100 = [49, 48, 48] := by simp [Lib.itoa, Lib.decDigits]
theorem num_ok {s : Bytes} {v : Int} (h1 : pe s = 0) (h2 : pv s = v) (h3 : Lib.itoa v = s) (h4 : s.head? ≠ some 45) (h5 : ¬ 16777216 < v) : eOf s 16777216 = 0 ∧ nOf s 16777216 = v := by
  have he : eOf s 16777216 = 0 := by
    unfold eOf
    rw [h1, h2, h3, if_neg (by simp [h4]), if_neg (by simp; omega)]
  exact ⟨he, by unfold nOf; rw [if_pos he, h2]⟩
def awakeC : List Cmd := [⟨1, 5000, 0, [], []⟩, ⟨3, 0, 0, [3, 9], []⟩, ⟨5, 100, 0, [], []⟩]
theorem awake_parse : parseR awakeB = .ok awakeC := by
  obtain ⟨a1, a2⟩ := num_ok (s := [53, 48, 48, 48]) (v := 5000) (by rfl) (by rfl) it5000 (by decide) (by decide)
  obtain ⟨b1, b2⟩ := num_ok (s := [51]) (v := 3) (by rfl) (by rfl) it3 (by decide) (by decide)
  obtain ⟨c1, c2⟩ := num_ok (s := [57]) (v := 9) (by rfl) (by rfl) it9 (by decide) (by decide)
  obtain ⟨d1, d2⟩ := num_ok (s := [49, 48, 48]) (v := 100) (by rfl) (by rfl) it100 (by decide) (by decide)
  have e : sp1 10 awakeB = [[99, 101, 108, 108, 115, 32, 53, 48, 48, 48, 32, 35, 32, 102, 101, 119], [32, 116, 105, 99, 107, 115, 32, 51, 32, 57], [114, 117, 110, 32, 49, 48, 48]] := by rfl
  have w0 : wordsR (aheadR [99, 101, 108, 108, 115, 32, 53, 48, 48, 48, 32, 35, 32, 102, 101, 119]) = [[99, 101, 108, 108, 115], [53, 48, 48, 48]] := by rfl
  have w1 : wordsR (aheadR [32, 116, 105, 99, 107, 115, 32, 51, 32, 57]) = [[116, 105, 99, 107, 115], [51], [57]] := by rfl
  have w2 : wordsR (aheadR [114, 117, 110, 32, 49, 48, 48]) = [[114, 117, 110], [49, 48, 48]] := by rfl
  have k0 : kindF 8 [99, 101, 108, 108, 115] = 1 := by rfl
  have k1 : kindF 8 [116, 105, 99, 107, 115] = 3 := by rfl
  have k2 : kindF 8 [114, 117, 110] = 5 := by rfl
  have r0 : readW 1 [[53, 48, 48, 48]] = .ok ⟨1, 5000, 0, [], []⟩ := by
    rw [read_nums (by rfl) (by decide)]
    simp only [worstF, numsF, show (1 == 8) = false from rfl, show lim false 0 = 16777216 from rfl, a1, a2]
    rfl
  have r1 : readW 3 [[51], [57]] = .ok ⟨3, 0, 0, [3, 9], []⟩ := by
    rw [read_nums (by rfl) (by decide)]
    simp only [worstF, numsF, show (3 == 8) = false from rfl, show lim false 0 = 16777216 from rfl, show lim false (0 + 1) = 16777216 from rfl, b1, b2, c1, c2]
    rfl
  have r2 : readW 5 [[49, 48, 48]] = .ok ⟨5, 100, 0, [], []⟩ := by
    rw [read_nums (by rfl) (by decide)]
    simp only [worstF, numsF, show (5 == 8) = false from rfl, show lim false 0 = 16777216 from rfl, d1, d2]
    rfl
  unfold parseR
  rw [if_neg (by decide), e, lines_cons, lines_cons, lines_cons, w0, w1, w2]
  dsimp only
  rw [k0, k1, k2, r0, r1, r2]
  rfl
set_option maxRecDepth 100000 in
set_option maxHeartbeats 1600000 in
theorem awake_any (w : World) (hev : ErrVar w) (hp : Pow10 w) (hm : MaxV w) : Calls Tryd.prog 5 #[] w (Back (.bool true) w) := by
  have hR := parse_any ⟨awakeB.toArray⟩ w hev hp hm
  rw [show (⟨awakeB.toArray⟩ : ByteArray).data.toList = awakeB from rfl, awake_parse] at hR
  have HR := Lib.hid hR
  have hMild : Mild awakeC := ⟨by decide, by decide⟩
  have HMI := Lib.hid hMild
  clear hR hMild
  go_enter Tryd.func5, Tryd.ntmps5
  go_wp2_with fail
  refine HR.out.mono ?_; rintro e w1 ⟨hb1, v, rfl, hC⟩
  have HC := Lib.hid hC
  obtain ⟨cl, hcl, hown, hfl⟩ := hC
  obtain ⟨ao, cap, rfl, hao⟩ := own_slice hown
  have hl3 : cl.length = 3 := by have h := congrArg List.length hcl; rw [List.length_map] at h; exact h
  rw [hl3] at hao ⊢
  obtain ⟨g, rfl, -, hg, -, -⟩ := hao (by omega)
  obtain ⟨x, hx⟩ : ∃ x, cl[2]? = some x := ⟨_, List.getElem?_eq_getElem (by omega)⟩
  have hx5 : x.1 = ⟨5, 100, 0, [], []⟩ := by
    have h : (cl.map (·.1))[2]? = some x.1 := by rw [List.getElem?_map, hx]; rfl
    rw [hcl] at h
    exact (Option.some.inj h).symm
  obtain ⟨k0, -, -, -, -⟩ := cmd_at hown 2 x hx
  rw [hx5] at k0
  rw [hl3] at HC
  clear hcl hown hfl hl3 hx hx5
  go_wp2_with fail
  refine (options_any _ _ _ HC.out HMI.out).mono ?_; rintro e w2 ⟨hb2, io, il, ic, ko, kl, kc, co, ll, cc, rfl, hI, hT, hCo⟩
  obtain ⟨rfl, hto⟩ := own_len hT
  obtain ⟨tg, rfl, -, htg, -, -⟩ := hto (by decide)
  have t1 : w2.cell? ⟨tg, 1, none⟩ = some (.int .i64 9) := by
    have h := World.ownsRow.cells hT (g := tg) rfl 1 (.int .i64 9) rfl
    simpa [Addr.add] using h
  have k0' : w2.cell? ⟨g, 10, none⟩ = some (.int .i64 5) := (hb2.cell (p := ⟨g, _, none⟩) hg).trans k0
  have hg2 := Nat.lt_of_lt_of_le hg hb2.size
  rw [show nR awakeC 60000 = 5000 from rfl, show (tkR awakeC).length = 2 from rfl]
  have hbb := hb1.trans (hb2.mono hb1.size)
  have HBB := Lib.hid hbb
  clear hI hT hCo hto k0 hb1 hb2
  go_wp2_with fail
  go_ret
  exact ⟨rfl, HBB.out.alloc HBB.out.size _⟩
end Sc
end Go.Proofs.YtaaknnmnkgnbjaaDoor
