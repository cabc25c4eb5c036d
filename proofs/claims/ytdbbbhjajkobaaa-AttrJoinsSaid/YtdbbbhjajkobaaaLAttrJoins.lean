/- The law AttrJoins holds: whatever two lists it is handed, it returns true, and they read as they did. No condition. -/
import Derived.Test.YtdbbbhjajkobaaaRows
import Derived.Test.YtdbbbhjajkobaaaGlawc
import Derived.Test.YtdbbbhjajkobaaaHLR
set_option linter.unusedVariables false
set_option linter.unusedSimpArgs false
set_option maxRecDepth 100000
namespace Go.HL
open Go.RowKit Go.Proofs
theorem cod_attr (n : Nat) : Cod Try.prog n 90 attrD (fun a => a.name.size ≤ maxLen ∧ a.value.size ≤ maxLen) := by
  have s0 : ∀ n, Cod Try.prog n 9 (fun s : ByteArray => [D.str s]) (fun s => s.size ≤ maxLen) := fun n => Cod.str (by kernel_rfl)
  have b0 : ∀ n, Cod Try.prog n 4 (fun s : Bool => [D.bool s]) (fun _ => True) := fun n => Cod.bool (by kernel_rfl)
  have base := Cod.structN (P := Try.prog) (t := 90) Try.underlying90 (l := [(9, 0, 1), (9, 1, 1), (4, 2, 1)]) (by kernel_rfl) (fun n => .cons (fun _ => rfl) (s0 n) (.cons (fun _ => rfl) (s0 n) (.cons (fun _ => rfl) (b0 n) (.nil _)))) (by kernel_rfl) n
  exact Cod.map base (fun p => ⟨p.1, p.2.1, p.2.2.1⟩) (fun _ => rfl) (fun p h => ⟨h.1, h.2.1⟩)
theorem arg_attrs : HasArg Try.prog 22 (fun l : List Attr => D.list (l.map attrD) .ro) (fun l => l.length ≤ maxLen ∧ ∀ a ∈ l, a.name.size ≤ maxLen ∧ a.value.size ≤ maxLen) :=
  HasArg.slice (k := 3) (by kernel_rfl) (by kernel_rfl) (by omega) attrD_length cod_attr
end Go.HL
namespace Go.Proofs.Ytdbbbhjajkobaaa
open Go.HL Go.ChangeShapes Go.WideShapes Go.ChangeAt Go.RowKit
theorem attrJoins_lifted (os : Os) (started : os.Started) (H : Type) (enc : TypeId × Value → H) :
    ReturnsInHanded {} Try.checked os 3 .any (Rows.attrJoinsSpec.pre6 enc Try.prog Try.f3 Rows.attrJoinsRow.domain false) (Rows.attrJoinsSpec.post enc Try.prog Try.f3 false true false false) := by
  refine row_lifted (C := Try.checked) (rt := 4) (by kernel_rfl) started (by kernel_rfl) Try.func3
    (ChangeSpec.witness6 (enc := enc) (C := Try.checked) false ⟨#[], #[.slice none 0 0, .slice none 0 0], []⟩ 8 (by kernel_rfl) (by kernel_rfl) (by kernel_rfl) (by kernel_rfl))
    (by kernel_rfl) rfl (by kernel_rfl) (by kernel_rfl) (of_decide_eq_true (by kernel_rfl)) ?_ (.cons arg_attrs (.cons arg_attrs .nil)) ?_
  · intro ds hds
    match ds, hds with
    | [a, b], _ => rfl
  · rintro ⟨l, m, -⟩ ⟨g1, g2, -⟩
    exact c_law3 l m _ _ fun _ _ h3 h4 => hok l m h3 h4
theorem attrJoins_holds : Rows.AttrJoinsSaid :=
  OpenClaim.holds_of_wide 3 Try.f3 rfl rfl rfl rfl rfl rfl rfl ⟨rfl, rfl, rfl, rfl, rfl⟩ rfl rfl rfl rfl rfl (by kernel_rfl) Try.func3 (by kernel_rfl)
    (of_decide_eq_true (by kernel_rfl)) (by unfold Func.isWrapper; rw [if_neg (of_decide_eq_false (by kernel_rfl))]; exact ⟨rfl, rfl⟩)
    (fun os started H enc _ => attrJoins_lifted os started H enc)
#print axioms attrJoins_holds
end Go.Proofs.Ytdbbbhjajkobaaa
