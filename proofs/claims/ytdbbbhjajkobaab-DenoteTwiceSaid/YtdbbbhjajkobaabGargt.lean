/- What trees among the arguments of the laws read as. -/
import Derived.Test.YtdbbbhjajkobaabGargs
import Derived.Test.YtdbbbhjajkobaabGtree
set_option linter.unusedVariables false
set_option linter.unusedSimpArgs false
set_option maxRecDepth 100000
namespace Go.HL
open Go.RowKit Go.Proofs
theorem cod_tree : ∀ n, Cod Try.prog n 37 treeD (fun _ => True) := by
  intro n
  induction n using Nat.strongRecOn with
  | ind n ih =>
    cases n with
    | zero => exact Cod.zero
    | succ m =>
      have hk : Cod Try.prog m 23 (fun l : List Tree => [D.list (l.map treeD) .ro]) (fun l => l.length ≤ maxLen ∧ ∀ a ∈ l, True) := by
        cases m with
        | zero => exact Cod.zero
        | succ k => exact Cod.slice (k := 5) (by kernel_rfl) (by kernel_rfl) (by omega) treeD_length (ih k (by omega))
      have ha : Cod Try.prog m 35 (fun l : List Attr => [D.list (l.map attrD) .ro]) (fun l => l.length ≤ maxLen ∧ ∀ a ∈ l, a.name.size ≤ maxLen ∧ a.value.size ≤ maxLen) :=
        Cod.sliceN (k := 3) (by kernel_rfl) (by kernel_rfl) (by omega) attrD_length cod_attr m
      have base := Cod.struct (P := Try.prog) (t := 37) (n := m) Try.underlying37 (l := [(9, 0, 1), (9, 1, 1), (9, 2, 1), (35, 3, 1), (23, 4, 1)]) (by kernel_rfl)
        (.cons (fun _ => rfl) (cod_str m) (.cons (fun _ => rfl) (cod_str m) (.cons (fun _ => rfl) (cod_str m) (.cons (fun _ => rfl) ha (.cons (fun _ => rfl) hk (.nil _)))))) (by kernel_rfl)
      exact Cod.map base (fun p => .mk p.1 p.2.1 p.2.2.1 p.2.2.2.1 p.2.2.2.2.1) (fun a => by rw [treeD_eq]; rfl) (fun _ _ => trivial)
theorem arg_tree : HasArg Try.prog 37 (fun a => D.agg (treeD a)) (fun _ => True) := HasArg.struct Try.underlying37 cod_tree
theorem arg_trees : HasArg Try.prog 23 (fun l : List Tree => D.list (l.map treeD) .ro) (fun l => l.length ≤ maxLen ∧ ∀ a ∈ l, True) :=
  HasArg.slice (k := 5) (by kernel_rfl) (by kernel_rfl) (by omega) treeD_length cod_tree
end Go.HL
