/- The lexer's law package's fixed text: its tokens. No program. -/
import Derived.Test.YtpfaldcfnhjlgaaGreatDoorLxErr
import Derived.KernelRfl
set_option linter.unusedVariables false
namespace Go.Proofs.YtpfaldcfnhjlgaaGreatDoor
namespace Lx
def awakeT : Bytes := [120, 58, 61, 51, 32, 102, 111, 111, 58, 32, 35, 97, 116, 58, 112, 117, 116, 58, 32, 44, 32, 39, 105, 116, 39, 39, 115, 39]
def awakeL : List Tok := [⟨1, [120], 0, 0⟩, ⟨7, [], 0, 1⟩, ⟨3, [], 3, 3⟩, ⟨2, [102, 111, 111, 58], 0, 5⟩, ⟨5, [97, 116, 58, 112, 117, 116, 58], 0, 10⟩, ⟨6, [44], 0, 19⟩, ⟨4, [105, 116, 39, 115], 0, 21⟩, ⟨0, [], 0, 28⟩]
set_option maxRecDepth 100000 in
theorem awake_all : allR awakeT = .ok awakeL := by rfl
end Lx
end Go.Proofs.YtpfaldcfnhjlgaaGreatDoor
