/- The law MatchTells holds: whatever old nodes and whatever program it is handed, it returns true, and they read as they did. No condition. -/
import Derived.Test.YtdbbbhjajkobaaaRows
import Derived.Test.YtdbbbhjajkobaaaGlawtm
import Derived.Test.YtdbbbhjajkobaaaGargm
set_option linter.unusedVariables false
set_option linter.unusedSimpArgs false
set_option maxRecDepth 100000
namespace Go.Proofs.Ytdbbbhjajkobaaa
open Go.HL Go.ChangeShapes Go.WideShapes Go.ChangeAt Go.RowKit
theorem matchTells_lifted (os : Os) (started : os.Started) (H : Type) (enc : TypeId × Value → H) :
    ReturnsInHanded {} Try.checked os 12 .any (Rows.matchTellsSpec.pre6 enc Try.prog Try.f12 Rows.matchTellsRow.domain false) (Rows.matchTellsSpec.post enc Try.prog Try.f12 false true false false) := by
  refine row_lifted (C := Try.checked) (rt := 4) (by kernel_rfl) started (by kernel_rfl) Try.func12
    (ChangeSpec.witness6 (enc := enc) (C := Try.checked) false ⟨#[], #[.slice none 0 0, .slice none 0 0], []⟩ 8 (by kernel_rfl) (by kernel_rfl) (by kernel_rfl) (by kernel_rfl))
    (by kernel_rfl) rfl (by kernel_rfl) (by kernel_rfl) (of_decide_eq_true (by kernel_rfl)) ?_ (.cons arg_olds (.cons arg_ins .nil)) ?_
  · intro ds hds
    match ds, hds with
    | [a, b], _ => rfl
  · rintro ⟨os, l, -⟩ -; exact c_lawTells16 os l _ _
theorem matchTells_holds : Rows.MatchTellsSaid :=
  OpenClaim.holds_of_wide 12 Try.f12 rfl rfl rfl rfl rfl rfl rfl ⟨rfl, rfl, rfl, rfl, rfl⟩ rfl rfl rfl rfl rfl (by kernel_rfl) Try.func12 (by kernel_rfl)
    (of_decide_eq_true (by kernel_rfl)) (by unfold Func.isWrapper; rw [if_neg (of_decide_eq_false (by kernel_rfl))]; exact ⟨rfl, rfl⟩)
    (fun os started H enc _ => matchTells_lifted os started H enc)
#print axioms matchTells_holds
end Go.Proofs.Ytdbbbhjajkobaaa
