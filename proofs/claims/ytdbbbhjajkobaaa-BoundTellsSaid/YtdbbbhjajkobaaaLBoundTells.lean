/- The law BoundTells holds: whatever program and number it is handed, it returns true, and they read as they did. No condition. -/
import Derived.Test.YtdbbbhjajkobaaaRows
import Derived.Test.YtdbbbhjajkobaaaGbound
import Derived.Test.YtdbbbhjajkobaaaGargs
set_option linter.unusedVariables false
set_option linter.unusedSimpArgs false
set_option maxRecDepth 100000
namespace Go.Proofs.Ytdbbbhjajkobaaa
open Go.HL Go.ChangeShapes Go.WideShapes Go.ChangeAt Go.RowKit
theorem boundTells_lifted (os : Os) (started : os.Started) (H : Type) (enc : TypeId × Value → H) :
    ReturnsInHanded {} Try.checked os 9 .any (Rows.boundTellsSpec.pre6 enc Try.prog Try.f9 Rows.boundTellsRow.domain false) (Rows.boundTellsSpec.post enc Try.prog Try.f9 false true false false) := by
  refine row_lifted (C := Try.checked) (rt := 4) (by kernel_rfl) started (by kernel_rfl) Try.func9
    (ChangeSpec.witness6 (enc := enc) (C := Try.checked) false ⟨#[], #[.slice none 0 0, .int .i64 0], []⟩ 8 (by kernel_rfl) (by kernel_rfl) (by kernel_rfl) (by kernel_rfl))
    (by kernel_rfl) rfl (by kernel_rfl) (by kernel_rfl) (of_decide_eq_true (by kernel_rfl)) ?_ (.cons arg_ins (.cons arg_int .nil)) ?_
  · intro ds hds
    match ds, hds with
    | [a, b], _ => rfl
  · rintro ⟨l, o, _⟩ ⟨_, g, _⟩; exact c_lawTells18 l _ o g
theorem boundTells_holds : Rows.BoundTellsSaid :=
  OpenClaim.holds_of_wide 9 Try.f9 rfl rfl rfl rfl rfl rfl rfl ⟨rfl, rfl, rfl, rfl, rfl⟩ rfl rfl rfl rfl rfl (by kernel_rfl) Try.func9 (by kernel_rfl)
    (of_decide_eq_true (by kernel_rfl)) (by unfold Func.isWrapper; rw [if_neg (of_decide_eq_false (by kernel_rfl))]; exact ⟨rfl, rfl⟩)
    (fun os started H enc _ => boundTells_lifted os started H enc)
#print axioms boundTells_holds
end Go.Proofs.Ytdbbbhjajkobaaa
