/- The law DenoteTwice holds: whatever program and whatever trees it is handed, it returns true, and they read as they did. No condition. -/
import Derived.Test.YtdbbbhjajkobaabRows
import Derived.Test.YtdbbbhjajkobaabGdent
import Derived.Test.YtdbbbhjajkobaabGargt
set_option linter.unusedVariables false
set_option linter.unusedSimpArgs false
set_option maxRecDepth 100000
namespace Go.Proofs.Ytdbbbhjajkobaab
open Go.HL Go.ChangeShapes Go.WideShapes Go.ChangeAt Go.RowKit
theorem denoteTwice_lifted (os : Os) (started : os.Started) (H : Type) (enc : TypeId × Value → H) :
    ReturnsInHanded {} Try.checked os 4 .any (Rows.denoteTwiceSpec.pre6 enc Try.prog Try.f4 Rows.denoteTwiceRow.domain false) (Rows.denoteTwiceSpec.post enc Try.prog Try.f4 false true false false) := by
  refine row_lifted (C := Try.checked) (rt := 4) (by kernel_rfl) started (by kernel_rfl) Try.func4
    (ChangeSpec.witness6 (enc := enc) (C := Try.checked) false ⟨#[], #[.slice none 0 0, .slice none 0 0], []⟩ 8 (by kernel_rfl) (by kernel_rfl) (by kernel_rfl) (by kernel_rfl))
    (by kernel_rfl) rfl (by kernel_rfl) (by kernel_rfl) (of_decide_eq_true (by kernel_rfl)) ?_ (.cons arg_ins (.cons arg_trees .nil)) ?_
  · intro ds hds
    match ds, hds with
    | [a, b], _ => rfl
  · rintro ⟨l, old, -⟩ -; exact c_lawD2 l old _ _
theorem denoteTwice_holds : Rows.DenoteTwiceSaid :=
  OpenClaim.holds_of_wide 4 Try.f4 rfl rfl rfl rfl rfl rfl rfl ⟨rfl, rfl, rfl, rfl, rfl⟩ rfl rfl rfl rfl rfl (by kernel_rfl) Try.func4 (by kernel_rfl)
    (of_decide_eq_true (by kernel_rfl)) (by unfold Func.isWrapper; rw [if_neg (of_decide_eq_false (by kernel_rfl))]; exact ⟨rfl, rfl⟩)
    (fun os started H enc _ => denoteTwice_lifted os started H enc)
#print axioms denoteTwice_holds
end Go.Proofs.Ytdbbbhjajkobaab
