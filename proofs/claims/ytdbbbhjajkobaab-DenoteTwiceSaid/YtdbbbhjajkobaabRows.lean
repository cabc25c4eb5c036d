/-
  NARROWER THAN 'FOR EVERY INPUT', by the rows' own cells (each row's printed sentence says how): DenoteTells: loops · DenoteTwice: loops · TreeBack: loops.
  DERIVED. THE GIVEN ROWS OF THIS SEAT. 8 by the template 'for every input the law returns true; each argument reads behind the call as it read before'; 0 by the template 'total and deterministic' (their statements: YtdbbbhjajkobaabTotals.lean).
  GIVEN WITH THE SEED: the statements are not yours to turn. If you find one false, say at which input.
  Laid BY PROGRAM, IN A SANDBOX (cutbox-rows.mjs): the forced cells as the released guide's own fill.sh prints them over the translation 7f05ed993ad4ad27… (all of the seat's roots in one cut). By AI agents, Wed Nov 11 2026. No macro, syntax, notation, axiom, sorry.
-/
import Derived.Test.YtdbbbhjajkobaabChecked
import GoSem.Claim
import GoSem.ClaimJoined
import GoSem.ClaimMapViews
import Derived.JoinedTies
import Derived.KernelRfl
namespace Go.Proofs.Ytdbbbhjajkobaab
/- THE CELL 'sum', in the pinned program and in every row, IS THE sha256 OF THE DUMP (.gsa) THAT YtdbbbhjajkobaabProg.lean LOADS. Nothing in Lean hashes anything: it is a label: what it is worth is what the hold of that sum in a sandbox is worth. -/
noncomputable def Try.pinned : Pinned := { name := "ytdbbbhjajkobaab", sum := "7f05ed993ad4ad270d212ebfa2d38d09c79ddbb36b0f39f8d96b93d8970683e6", checked := Try.checked }
namespace Rows
def none {H : Type} : Left H := { results := [], args := [] }

/-- 'placketlaw17.DenoteTells': WHATEVER THE INPUT: true; the input reads as it did. -/
def denoteTellsSpec : ChangeSpec := { name := "denoteTells", fn := fun _ => fun
  | [d1, d2] => { results := [.lit (.bool true)], args := [d1, d2] }
  | _ => none }
def denoteTellsRow : OpenClaim := { program := "ytdbbbhjajkobaab", sum := "7f05ed993ad4ad270d212ebfa2d38d09c79ddbb36b0f39f8d96b93d8970683e6", func := "placket/placketlaw17.DenoteTells", spec := "denoteTells", unfollowed := true, recurses := true, loops := true, apart := false }
def DenoteTellsSaid : Prop := denoteTellsRow.holds Try.pinned (OpenSpec.ofChange denoteTellsSpec)

/-- ITS FALSE NEIGHBOUR: 'it returns false'. Refute it at one input. -/
def denoteTellsWrong : ChangeSpec := { name := "denoteTells", fn := fun _ => fun
  | [d1, d2] => { results := [.lit (.bool false)], args := [d1, d2] }
  | _ => none }
def DenoteTellsWrongFalsely : Prop := denoteTellsRow.holds Try.pinned (OpenSpec.ofChange denoteTellsWrong)

/-- 'placketlaw17.DenoteTwice': WHATEVER THE INPUT: true; the input reads as it did. -/
def denoteTwiceSpec : ChangeSpec := { name := "denoteTwice", fn := fun _ => fun
  | [d1, d2] => { results := [.lit (.bool true)], args := [d1, d2] }
  | _ => none }
def denoteTwiceRow : OpenClaim := { program := "ytdbbbhjajkobaab", sum := "7f05ed993ad4ad270d212ebfa2d38d09c79ddbb36b0f39f8d96b93d8970683e6", func := "placket/placketlaw17.DenoteTwice", spec := "denoteTwice", unfollowed := true, recurses := true, loops := true, apart := false }
def DenoteTwiceSaid : Prop := denoteTwiceRow.holds Try.pinned (OpenSpec.ofChange denoteTwiceSpec)

/-- ITS FALSE NEIGHBOUR: 'it returns false'. Refute it at one input. -/
def denoteTwiceWrong : ChangeSpec := { name := "denoteTwice", fn := fun _ => fun
  | [d1, d2] => { results := [.lit (.bool false)], args := [d1, d2] }
  | _ => none }
def DenoteTwiceWrongFalsely : Prop := denoteTwiceRow.holds Try.pinned (OpenSpec.ofChange denoteTwiceWrong)

/-- 'placketlaw05.DomStands': WHATEVER THE INPUT: true; the input reads as it did. -/
def domStandsSpec : ChangeSpec := { name := "domStands", fn := fun _ => fun
  | [d1, d2] => { results := [.lit (.bool true)], args := [d1, d2] }
  | _ => none }
def domStandsRow : OpenClaim := { program := "ytdbbbhjajkobaab", sum := "7f05ed993ad4ad270d212ebfa2d38d09c79ddbb36b0f39f8d96b93d8970683e6", func := "placket/placketlaw05.DomStands", spec := "domStands", inPlace := ["sync/atomic.AddInt64", "sync/atomic.LoadInt64", "slices.overlaps[int]"], unfollowed := true, recurses := true, apart := false }
def DomStandsSaid : Prop := domStandsRow.holds Try.pinned (OpenSpec.ofChange domStandsSpec)

/-- ITS FALSE NEIGHBOUR: 'it returns false'. Refute it at one input. -/
def domStandsWrong : ChangeSpec := { name := "domStands", fn := fun _ => fun
  | [d1, d2] => { results := [.lit (.bool false)], args := [d1, d2] }
  | _ => none }
def DomStandsWrongFalsely : Prop := domStandsRow.holds Try.pinned (OpenSpec.ofChange domStandsWrong)

/-- 'placketlaw05.DomPlays': WHATEVER THE INPUT: true; the input reads as it did. -/
def domPlaysSpec : ChangeSpec := { name := "domPlays", fn := fun _ => fun
  | [d1, d2] => { results := [.lit (.bool true)], args := [d1, d2] }
  | _ => none }
def domPlaysRow : OpenClaim := { program := "ytdbbbhjajkobaab", sum := "7f05ed993ad4ad270d212ebfa2d38d09c79ddbb36b0f39f8d96b93d8970683e6", func := "placket/placketlaw05.DomPlays", spec := "domPlays", inPlace := ["sync/atomic.AddInt64", "sync/atomic.LoadInt64", "slices.overlaps[int]", "sync/atomic.StoreInt64"], unfollowed := true, recurses := true, apart := false }
def DomPlaysSaid : Prop := domPlaysRow.holds Try.pinned (OpenSpec.ofChange domPlaysSpec)

/-- ITS FALSE NEIGHBOUR: 'it returns false'. Refute it at one input. -/
def domPlaysWrong : ChangeSpec := { name := "domPlays", fn := fun _ => fun
  | [d1, d2] => { results := [.lit (.bool false)], args := [d1, d2] }
  | _ => none }
def DomPlaysWrongFalsely : Prop := domPlaysRow.holds Try.pinned (OpenSpec.ofChange domPlaysWrong)

/-- 'placketlaw06.PathTells': WHATEVER THE INPUT: true; the input reads as it did. -/
def pathTellsSpec : ChangeSpec := { name := "pathTells", fn := fun _ => fun
  | [d1, d2, d3, d4] => { results := [.lit (.bool true)], args := [d1, d2, d3, d4] }
  | _ => none }
def pathTellsRow : OpenClaim := { program := "ytdbbbhjajkobaab", sum := "7f05ed993ad4ad270d212ebfa2d38d09c79ddbb36b0f39f8d96b93d8970683e6", func := "placket/placketlaw06.PathTells", spec := "pathTells", inPlace := ["sync/atomic.AddInt64", "sync/atomic.LoadInt64", "slices.overlaps[int]"], unfollowed := true, recurses := true, apart := false }
def PathTellsSaid : Prop := pathTellsRow.holds Try.pinned (OpenSpec.ofChange pathTellsSpec)

/-- ITS FALSE NEIGHBOUR: 'it returns false'. Refute it at one input. -/
def pathTellsWrong : ChangeSpec := { name := "pathTells", fn := fun _ => fun
  | [d1, d2, d3, d4] => { results := [.lit (.bool false)], args := [d1, d2, d3, d4] }
  | _ => none }
def PathTellsWrongFalsely : Prop := pathTellsRow.holds Try.pinned (OpenSpec.ofChange pathTellsWrong)

/-- 'placketlaw06.PathInside': WHATEVER THE INPUT: true; the input reads as it did. -/
def pathInsideSpec : ChangeSpec := { name := "pathInside", fn := fun _ => fun
  | [d1, d2, d3] => { results := [.lit (.bool true)], args := [d1, d2, d3] }
  | _ => none }
def pathInsideRow : OpenClaim := { program := "ytdbbbhjajkobaab", sum := "7f05ed993ad4ad270d212ebfa2d38d09c79ddbb36b0f39f8d96b93d8970683e6", func := "placket/placketlaw06.PathInside", spec := "pathInside", inPlace := ["sync/atomic.AddInt64", "sync/atomic.LoadInt64", "slices.overlaps[int]"], unfollowed := true, recurses := true, apart := false }
def PathInsideSaid : Prop := pathInsideRow.holds Try.pinned (OpenSpec.ofChange pathInsideSpec)

/-- ITS FALSE NEIGHBOUR: 'it returns false'. Refute it at one input. -/
def pathInsideWrong : ChangeSpec := { name := "pathInside", fn := fun _ => fun
  | [d1, d2, d3] => { results := [.lit (.bool false)], args := [d1, d2, d3] }
  | _ => none }
def PathInsideWrongFalsely : Prop := pathInsideRow.holds Try.pinned (OpenSpec.ofChange pathInsideWrong)

/-- 'placketlaw07.MutPlays': WHATEVER THE INPUT: true; the input reads as it did. -/
def mutPlaysSpec : ChangeSpec := { name := "mutPlays", fn := fun _ => fun
  | [d1, d2] => { results := [.lit (.bool true)], args := [d1, d2] }
  | _ => none }
def mutPlaysRow : OpenClaim := { program := "ytdbbbhjajkobaab", sum := "7f05ed993ad4ad270d212ebfa2d38d09c79ddbb36b0f39f8d96b93d8970683e6", func := "placket/placketlaw07.MutPlays", spec := "mutPlays", inPlace := ["sync/atomic.AddInt64", "sync/atomic.LoadInt64", "slices.overlaps[int]"], unfollowed := true, recurses := true, apart := false }
def MutPlaysSaid : Prop := mutPlaysRow.holds Try.pinned (OpenSpec.ofChange mutPlaysSpec)

/-- ITS FALSE NEIGHBOUR: 'it returns false'. Refute it at one input. -/
def mutPlaysWrong : ChangeSpec := { name := "mutPlays", fn := fun _ => fun
  | [d1, d2] => { results := [.lit (.bool false)], args := [d1, d2] }
  | _ => none }
def MutPlaysWrongFalsely : Prop := mutPlaysRow.holds Try.pinned (OpenSpec.ofChange mutPlaysWrong)

/-- 'placketlaw08.TreeBack': WHATEVER THE INPUT: true; the input reads as it did. -/
def treeBackSpec : ChangeSpec := { name := "treeBack", fn := fun _ => fun
  | [d] => { results := [.lit (.bool true)], args := [d] }
  | _ => none }
def treeBackRow : OpenClaim := { program := "ytdbbbhjajkobaab", sum := "7f05ed993ad4ad270d212ebfa2d38d09c79ddbb36b0f39f8d96b93d8970683e6", func := "placket/placketlaw08.TreeBack", spec := "treeBack", inPlace := ["sync/atomic.AddInt64", "sync/atomic.LoadInt64", "slices.overlaps[int]"], unfollowed := true, recurses := true, loops := true, apart := false }
def TreeBackSaid : Prop := treeBackRow.holds Try.pinned (OpenSpec.ofChange treeBackSpec)

/-- ITS FALSE NEIGHBOUR: 'it returns false'. Refute it at one input. -/
def treeBackWrong : ChangeSpec := { name := "treeBack", fn := fun _ => fun
  | [d] => { results := [.lit (.bool false)], args := [d] }
  | _ => none }
def TreeBackWrongFalsely : Prop := treeBackRow.holds Try.pinned (OpenSpec.ofChange treeBackWrong)

/- THE SECOND FORM. 'bulk': how many values and letters a reading holds, each counted each time it is reached (what is shared counts as often as it is met; a slice's spare places count too). A statement '..UptoSaid' is the law's where the arguments, and the package variables that the reading takes, are together of bulk at most 1048576: NARROWER than '..Said'. Prove '..Said' where nothing that the law and all that it calls make is longer than what came in: it says more and counts as full. Else prove '..UptoSaid'. A law counts once. -/
mutual
def uptoBulk {H : Type} : DataW H → Nat
  | .lit (.string bytes) => bytes.length + 1
  | .lit _ => 1
  | .nil => 1
  | .ptr d => uptoBulk d + 1
  | .slice elems spare => uptoBulkAll elems + uptoBulkAll spare + 1
  | .agg parts => uptoBulkAll parts + 1
  | .iface _ d => uptoBulk d + 1
  | .map entries => uptoBulkEntries entries + 1
  | .held _ => 1
def uptoBulkAll {H : Type} : List (DataW H) → Nat
  | [] => 0
  | d :: r => uptoBulk d + uptoBulkAll r
def uptoBulkEntries {H : Type} : List (Lit × DataW H) → Nat
  | [] => 0
  | x :: r => uptoBulkEntry x + uptoBulkEntries r
def uptoBulkEntry {H : Type} : Lit × DataW H → Nat
  | (.string bytes, d) => bytes.length + uptoBulk d + 1
  | (_, d) => uptoBulk d + 1
 end
def uptoSmall : (H : Type) → List (DataW H) → Bool := fun _ ds => decide (uptoBulkAll ds ≤ 1048576)
def OpenSpec.upto (s : _root_.Go.ChangeSpec) : _root_.Go.OpenSpec := { _root_.Go.OpenSpec.ofChange s with cond := some uptoSmall }

/-- 'placketlaw17.DenoteTells', WHERE WHAT IT READS IS OF BULK AT MOST 1048576: true; the input reads as it did. -/
def denoteTellsUptoRow : OpenClaim := { program := "ytdbbbhjajkobaab", sum := "7f05ed993ad4ad270d212ebfa2d38d09c79ddbb36b0f39f8d96b93d8970683e6", func := "placket/placketlaw17.DenoteTells", spec := "denoteTells", unfollowed := true, recurses := true, loops := true, apart := false, narrowed := true }
def DenoteTellsUptoSaid : Prop := denoteTellsUptoRow.holds Try.pinned (OpenSpec.upto denoteTellsSpec)

/-- 'placketlaw17.DenoteTwice', WHERE WHAT IT READS IS OF BULK AT MOST 1048576: true; the input reads as it did. -/
def denoteTwiceUptoRow : OpenClaim := { program := "ytdbbbhjajkobaab", sum := "7f05ed993ad4ad270d212ebfa2d38d09c79ddbb36b0f39f8d96b93d8970683e6", func := "placket/placketlaw17.DenoteTwice", spec := "denoteTwice", unfollowed := true, recurses := true, loops := true, apart := false, narrowed := true }
def DenoteTwiceUptoSaid : Prop := denoteTwiceUptoRow.holds Try.pinned (OpenSpec.upto denoteTwiceSpec)

/-- 'placketlaw05.DomStands', WHERE WHAT IT READS IS OF BULK AT MOST 1048576: true; the input reads as it did. -/
def domStandsUptoRow : OpenClaim := { program := "ytdbbbhjajkobaab", sum := "7f05ed993ad4ad270d212ebfa2d38d09c79ddbb36b0f39f8d96b93d8970683e6", func := "placket/placketlaw05.DomStands", spec := "domStands", inPlace := ["sync/atomic.AddInt64", "sync/atomic.LoadInt64", "slices.overlaps[int]"], unfollowed := true, recurses := true, apart := false, narrowed := true }
def DomStandsUptoSaid : Prop := domStandsUptoRow.holds Try.pinned (OpenSpec.upto domStandsSpec)

/-- 'placketlaw05.DomPlays', WHERE WHAT IT READS IS OF BULK AT MOST 1048576: true; the input reads as it did. -/
def domPlaysUptoRow : OpenClaim := { program := "ytdbbbhjajkobaab", sum := "7f05ed993ad4ad270d212ebfa2d38d09c79ddbb36b0f39f8d96b93d8970683e6", func := "placket/placketlaw05.DomPlays", spec := "domPlays", inPlace := ["sync/atomic.AddInt64", "sync/atomic.LoadInt64", "slices.overlaps[int]", "sync/atomic.StoreInt64"], unfollowed := true, recurses := true, apart := false, narrowed := true }
def DomPlaysUptoSaid : Prop := domPlaysUptoRow.holds Try.pinned (OpenSpec.upto domPlaysSpec)

/-- 'placketlaw06.PathTells', WHERE WHAT IT READS IS OF BULK AT MOST 1048576: true; the input reads as it did. -/
def pathTellsUptoRow : OpenClaim := { program := "ytdbbbhjajkobaab", sum := "7f05ed993ad4ad270d212ebfa2d38d09c79ddbb36b0f39f8d96b93d8970683e6", func := "placket/placketlaw06.PathTells", spec := "pathTells", inPlace := ["sync/atomic.AddInt64", "sync/atomic.LoadInt64", "slices.overlaps[int]"], unfollowed := true, recurses := true, apart := false, narrowed := true }
def PathTellsUptoSaid : Prop := pathTellsUptoRow.holds Try.pinned (OpenSpec.upto pathTellsSpec)

/-- 'placketlaw06.PathInside', WHERE WHAT IT READS IS OF BULK AT MOST 1048576: true; the input reads as it did. -/
def pathInsideUptoRow : OpenClaim := { program := "ytdbbbhjajkobaab", sum := "7f05ed993ad4ad270d212ebfa2d38d09c79ddbb36b0f39f8d96b93d8970683e6", func := "placket/placketlaw06.PathInside", spec := "pathInside", inPlace := ["sync/atomic.AddInt64", "sync/atomic.LoadInt64", "slices.overlaps[int]"], unfollowed := true, recurses := true, apart := false, narrowed := true }
def PathInsideUptoSaid : Prop := pathInsideUptoRow.holds Try.pinned (OpenSpec.upto pathInsideSpec)

/-- 'placketlaw07.MutPlays', WHERE WHAT IT READS IS OF BULK AT MOST 1048576: true; the input reads as it did. -/
def mutPlaysUptoRow : OpenClaim := { program := "ytdbbbhjajkobaab", sum := "7f05ed993ad4ad270d212ebfa2d38d09c79ddbb36b0f39f8d96b93d8970683e6", func := "placket/placketlaw07.MutPlays", spec := "mutPlays", inPlace := ["sync/atomic.AddInt64", "sync/atomic.LoadInt64", "slices.overlaps[int]"], unfollowed := true, recurses := true, apart := false, narrowed := true }
def MutPlaysUptoSaid : Prop := mutPlaysUptoRow.holds Try.pinned (OpenSpec.upto mutPlaysSpec)

/-- 'placketlaw08.TreeBack', WHERE WHAT IT READS IS OF BULK AT MOST 1048576: true; the input reads as it did. -/
def treeBackUptoRow : OpenClaim := { program := "ytdbbbhjajkobaab", sum := "7f05ed993ad4ad270d212ebfa2d38d09c79ddbb36b0f39f8d96b93d8970683e6", func := "placket/placketlaw08.TreeBack", spec := "treeBack", inPlace := ["sync/atomic.AddInt64", "sync/atomic.LoadInt64", "slices.overlaps[int]"], unfollowed := true, recurses := true, loops := true, apart := false, narrowed := true }
def TreeBackUptoSaid : Prop := treeBackUptoRow.holds Try.pinned (OpenSpec.upto treeBackSpec)

end Rows
end Go.Proofs.Ytdbbbhjajkobaab
