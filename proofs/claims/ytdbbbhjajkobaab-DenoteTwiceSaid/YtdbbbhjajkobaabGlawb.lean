/- The law WishBack. -/
import Derived.Test.YtdbbbhjajkobaabGback
import Derived.Test.YtdbbbhjajkobaabGbound
import Derived.Test.YtdbbbhjajkobaabGvlaw
set_option linter.unusedVariables false
set_option linter.unusedSimpArgs false
set_option maxRecDepth 100000
set_option maxHeartbeats 1000000
namespace Go.HL
open Go.RowKit Go.Proofs

def up14l : List Ins := [⟨1, ⟨#[112]⟩, ⟨#[]⟩⟩, ⟨4, ⟨#[97]⟩, ⟨#[]⟩⟩, ⟨2, ⟨#[]⟩, ⟨#[]⟩⟩]
def up14w : List Want := [.mk 1 ⟨#[112]⟩ ⟨#[]⟩ ⟨#[]⟩ [] [.mk 2 ⟨#[]⟩ ⟨#[]⟩ ⟨#[97]⟩ [] []]]
theorem up14_a : chkP up14l = 0 := by decide +kernel
theorem up14_w : (someP up14l).1 = up14w := by rfl
theorem up14_c : cntL up14w = 2 := by decide +kernel
theorem up14_e : eqL up14w up14w = true := eqL_refl 10 up14w (by decide +kernel)
end Go.HL
