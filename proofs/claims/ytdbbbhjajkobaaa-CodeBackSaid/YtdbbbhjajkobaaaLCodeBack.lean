/- The law CodeBack holds: whatever program, bytes and number it is handed, it returns true, and they read as they did. No condition. -/
import Derived.Test.YtdbbbhjajkobaaaRows
import Derived.Test.YtdbbbhjajkobaaaGlawk
import Derived.Test.YtdbbbhjajkobaaaGargs
set_option linter.unusedVariables false
set_option linter.unusedSimpArgs false
set_option maxRecDepth 100000
namespace Go.Proofs.Ytdbbbhjajkobaaa
open Go.HL Go.ChangeShapes Go.WideShapes Go.ChangeAt Go.RowKit
theorem codeBack_lifted (os : Os) (started : os.Started) (H : Type) (enc : TypeId × Value → H) :
    ReturnsInHanded {} Try.checked os 6 .any (Rows.codeBackSpec.pre6 enc Try.prog Try.f6 Rows.codeBackRow.domain false) (Rows.codeBackSpec.post enc Try.prog Try.f6 false true false false) := by
  refine row_lifted (C := Try.checked) (rt := 4) (by kernel_rfl) started (by kernel_rfl) Try.func6
    (ChangeSpec.witness6 (enc := enc) (C := Try.checked) false ⟨#[], #[.slice none 0 0, .slice none 0 0, .int .i64 0], []⟩ 8 (by kernel_rfl) (by kernel_rfl) (by kernel_rfl) (by kernel_rfl))
    (by kernel_rfl) rfl (by kernel_rfl) (by kernel_rfl) (of_decide_eq_true (by kernel_rfl)) ?_ (.cons arg_ins (.cons arg_bytes (.cons arg_int .nil))) ?_
  · intro ds hds
    match ds, hds with
    | [a, b, c], _ => rfl
  · rintro ⟨l, b, m, _⟩ ⟨_, g, _⟩; exact c_lawBack l b m _ _ (by have := g.1; simpa [maxLen] using this)
theorem codeBack_holds : Rows.CodeBackSaid :=
  OpenClaim.holds_of_wide 6 Try.f6 rfl rfl rfl rfl rfl rfl rfl ⟨rfl, rfl, rfl, rfl, rfl⟩ rfl rfl rfl rfl rfl (by kernel_rfl) Try.func6 (by kernel_rfl)
    (of_decide_eq_true (by kernel_rfl)) (by unfold Func.isWrapper; rw [if_neg (of_decide_eq_false (by kernel_rfl))]; exact ⟨rfl, rfl⟩)
    (fun os started H enc _ => codeBack_lifted os started H enc)
#print axioms codeBack_holds
end Go.Proofs.Ytdbbbhjajkobaaa
