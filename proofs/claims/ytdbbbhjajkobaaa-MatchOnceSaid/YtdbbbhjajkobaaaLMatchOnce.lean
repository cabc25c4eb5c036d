/- The law MatchOnce holds: whatever old nodes and whatever program it is handed, it returns true, and they read as they did. No condition. -/
import Derived.Test.YtdbbbhjajkobaaaRows
import Derived.Test.YtdbbbhjajkobaaaGlawmo
import Derived.Test.YtdbbbhjajkobaaaGargm
set_option linter.unusedVariables false
set_option linter.unusedSimpArgs false
set_option maxRecDepth 100000
namespace Go.Proofs.Ytdbbbhjajkobaaa
open Go.HL Go.ChangeShapes Go.WideShapes Go.ChangeAt Go.RowKit
theorem matchOnce_lifted (os : Os) (started : os.Started) (H : Type) (enc : TypeId × Value → H) :
    ReturnsInHanded {} Try.checked os 13 .any (Rows.matchOnceSpec.pre6 enc Try.prog Try.f13 Rows.matchOnceRow.domain false) (Rows.matchOnceSpec.post enc Try.prog Try.f13 false true false false) := by
  refine row_lifted (C := Try.checked) (rt := 4) (by kernel_rfl) started (by kernel_rfl) Try.func13
    (ChangeSpec.witness6 (enc := enc) (C := Try.checked) false ⟨#[], #[.slice none 0 0, .slice none 0 0], []⟩ 8 (by kernel_rfl) (by kernel_rfl) (by kernel_rfl) (by kernel_rfl))
    (by kernel_rfl) rfl (by kernel_rfl) (by kernel_rfl) (of_decide_eq_true (by kernel_rfl)) ?_ (.cons arg_olds (.cons arg_ins .nil)) ?_
  · intro ds hds
    match ds, hds with
    | [a, b], _ => rfl
  · rintro ⟨os, l, -⟩ -; exact c_once os l _ _
theorem matchOnce_holds : Rows.MatchOnceSaid :=
  OpenClaim.holds_of_wide 13 Try.f13 rfl rfl rfl rfl rfl rfl rfl ⟨rfl, rfl, rfl, rfl, rfl⟩ rfl rfl rfl rfl rfl (by kernel_rfl) Try.func13 (by kernel_rfl)
    (of_decide_eq_true (by kernel_rfl)) (by unfold Func.isWrapper; rw [if_neg (of_decide_eq_false (by kernel_rfl))]; exact ⟨rfl, rfl⟩)
    (fun os started H enc _ => matchOnce_lifted os started H enc)
#print axioms matchOnce_holds
end Go.Proofs.Ytdbbbhjajkobaaa
