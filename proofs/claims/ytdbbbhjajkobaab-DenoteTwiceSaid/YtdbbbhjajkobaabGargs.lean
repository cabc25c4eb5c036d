/- What the arguments of the laws read as. -/
import Derived.Test.YtdbbbhjajkobaabGcode
import Derived.Test.YtdbbbhjajkobaabH3
set_option linter.unusedVariables false
set_option linter.unusedSimpArgs false
set_option maxRecDepth 100000
namespace Go.HL
open Go.RowKit Go.Proofs
theorem cod_str (n : Nat) : Cod Try.prog n 9 (fun s : ByteArray => [D.str s]) (fun s => s.size ≤ maxLen) := Cod.str (by kernel_rfl)
theorem cod_bool (n : Nat) : Cod Try.prog n 4 (fun s : Bool => [D.bool s]) (fun _ => True) := Cod.bool (by kernel_rfl)
theorem cod_int (n : Nat) : Cod Try.prog n 3 (fun i : Int => [D.int .i64 i]) (fun i => (Lit.int .i64 i).wf = true) := Cod.int (by kernel_rfl)
theorem arg_int : HasArg Try.prog 3 (fun i : Int => D.int .i64 i) (fun i => (Lit.int .i64 i).wf = true) := HasArg.int (by kernel_rfl)
theorem cod_attr (n : Nat) : Cod Try.prog n 132 attrD (fun a => a.name.size ≤ maxLen ∧ a.value.size ≤ maxLen) := by
  have base := Cod.structN (P := Try.prog) (t := 132) Try.underlying132 (l := [(9, 0, 1), (9, 1, 1), (4, 2, 1)]) (by kernel_rfl) (fun n => .cons (fun _ => rfl) (cod_str n) (.cons (fun _ => rfl) (cod_str n) (.cons (fun _ => rfl) (cod_bool n) (.nil _)))) (by kernel_rfl) n
  exact Cod.map base (fun p => ⟨p.1, p.2.1, p.2.2.1⟩) (fun _ => rfl) (fun p h => ⟨h.1, h.2.1⟩)
theorem arg_attrs : HasArg Try.prog 35 (fun l : List Attr => D.list (l.map attrD) .ro) (fun l => l.length ≤ maxLen ∧ ∀ a ∈ l, a.name.size ≤ maxLen ∧ a.value.size ≤ maxLen) :=
  HasArg.slice (k := 3) (by kernel_rfl) (by kernel_rfl) (by omega) attrD_length cod_attr
theorem cod_ins (n : Nat) : Cod Try.prog n 152 insD (fun a => a.a.size ≤ maxLen ∧ a.b.size ≤ maxLen) := by
  have base := Cod.structN (P := Try.prog) (t := 152) Try.underlying152 (l := [(3, 0, 1), (9, 1, 1), (9, 2, 1)]) (by kernel_rfl) (fun n => .cons (fun _ => rfl) (cod_int n) (.cons (fun _ => rfl) (cod_str n) (.cons (fun _ => rfl) (cod_str n) (.nil _)))) (by kernel_rfl) n
  exact Cod.map base (fun p => ⟨p.1, p.2.1, p.2.2.1⟩) (fun _ => rfl) (fun p h => ⟨h.2.1, h.2.2.1⟩)
theorem arg_ins : HasArg Try.prog 22 (fun l : List Ins => D.list (l.map insD) .ro) (fun l => l.length ≤ maxLen ∧ ∀ a ∈ l, a.a.size ≤ maxLen ∧ a.b.size ≤ maxLen) :=
  HasArg.slice (k := 3) (by kernel_rfl) (by kernel_rfl) (by omega) insD_length cod_ins
theorem cod_byte (n : Nat) : Cod Try.prog n 5 bD (fun _ => True) := by
  have base : Cod Try.prog n 5 (fun i : Int => [D.int .u8 i]) (fun i => (Lit.int .u8 i).wf = true) := Cod.int (by kernel_rfl)
  refine Cod.mapG base UInt8.ofInt (fun a h => ?_) (fun _ _ => trivial)
  have : (0 : Int) ≤ a ∧ a ≤ 255 := by simpa [Lit.wf, IntKind.has, IntKind.min, IntKind.max, IntKind.signed, IntKind.bits] using h
  have e : ((UInt8.ofInt a).toNat : Int) = a := by simp [UInt8.ofInt]; omega
  rw [bD_def, e]
end Go.HL
