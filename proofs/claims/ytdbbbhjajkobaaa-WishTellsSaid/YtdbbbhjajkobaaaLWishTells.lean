/- The law WishTells holds: whatever two programs it is handed, it returns true, and the programs read as they did. No condition. -/
import Derived.Test.YtdbbbhjajkobaaaRows
import Derived.Test.YtdbbbhjajkobaaaGlawt
import Derived.Test.YtdbbbhjajkobaaaGargs
set_option linter.unusedVariables false
set_option linter.unusedSimpArgs false
set_option maxRecDepth 100000
namespace Go.Proofs.Ytdbbbhjajkobaaa
open Go.HL Go.ChangeShapes Go.WideShapes Go.ChangeAt Go.RowKit
theorem wishTells_lifted (os : Os) (started : os.Started) (H : Type) (enc : TypeId × Value → H) :
    ReturnsInHanded {} Try.checked os 11 .any (Rows.wishTellsSpec.pre6 enc Try.prog Try.f11 Rows.wishTellsRow.domain false) (Rows.wishTellsSpec.post enc Try.prog Try.f11 false true false false) := by
  refine row_lifted (C := Try.checked) (rt := 4) (by kernel_rfl) started (by kernel_rfl) Try.func11
    (ChangeSpec.witness6 (enc := enc) (C := Try.checked) false ⟨#[], #[.slice none 0 0, .slice none 0 0], []⟩ 8 (by kernel_rfl) (by kernel_rfl) (by kernel_rfl) (by kernel_rfl))
    (by kernel_rfl) rfl (by kernel_rfl) (by kernel_rfl) (of_decide_eq_true (by kernel_rfl)) ?_ (.cons arg_ins (.cons arg_ins .nil)) ?_
  · intro ds hds
    match ds, hds with
    | [a, b], _ => rfl
  · rintro ⟨l, m, -⟩ -; exact c_lawTells14 l m _ _
theorem wishTells_holds : Rows.WishTellsSaid :=
  OpenClaim.holds_of_wide 11 Try.f11 rfl rfl rfl rfl rfl rfl rfl ⟨rfl, rfl, rfl, rfl, rfl⟩ rfl rfl rfl rfl rfl (by kernel_rfl) Try.func11 (by kernel_rfl)
    (of_decide_eq_true (by kernel_rfl)) (by unfold Func.isWrapper; rw [if_neg (of_decide_eq_false (by kernel_rfl))]; exact ⟨rfl, rfl⟩)
    (fun os started H enc _ => wishTells_lifted os started H enc)
#print axioms wishTells_holds
end Go.Proofs.Ytdbbbhjajkobaaa
