/- What the arguments of the laws of old nodes read as. -/
import Derived.Test.YtdbbbhjajkobaaaGargs
import Derived.Test.YtdbbbhjajkobaaaGmatch
set_option linter.unusedVariables false
set_option linter.unusedSimpArgs false
set_option maxRecDepth 100000
namespace Go.HL
open Go.RowKit Go.Proofs
theorem cod_old (n : Nat) : Cod Try.prog n 76 oldD (fun a => a.tag.size ≤ maxLen ∧ a.key.size ≤ maxLen) := by
  have base := Cod.structN (P := Try.prog) (t := 76) Try.underlying76 (l := [(9, 0, 1), (9, 1, 1)]) (by kernel_rfl) (fun n => .cons (fun _ => rfl) (cod_str n) (.cons (fun _ => rfl) (cod_str n) (.nil _))) (by kernel_rfl) n
  exact Cod.map base (fun p => ⟨p.1, p.2.1⟩) (fun _ => rfl) (fun p h => ⟨h.1, h.2.1⟩)
theorem arg_olds : HasArg Try.prog 71 (fun l : List Old => D.list (l.map oldD) .ro) (fun l => l.length ≤ maxLen ∧ ∀ a ∈ l, a.tag.size ≤ maxLen ∧ a.key.size ≤ maxLen) :=
  HasArg.slice (k := 2) (by kernel_rfl) (by kernel_rfl) (by omega) oldD_length cod_old
end Go.HL
