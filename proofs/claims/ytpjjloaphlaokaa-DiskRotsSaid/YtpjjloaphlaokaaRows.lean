/-
  No cell of these rows narrows 'for every input' (looked for: loops, veiled, ifaces, maps, wideKeys, modest, calm, conditions, laid).
  DERIVED. THE GIVEN ROWS OF THIS SEAT. 6 by the template 'for every input the law returns true; each argument reads behind the call as it read before'; 0 by the template 'total and deterministic' (their statements: YtpjjloaphlaokaaTotals.lean).
  GIVEN WITH THE SEED: the statements are not yours to turn. If you find one false, say at which input.
  Laid BY PROGRAM, IN A SANDBOX (cutbox-rows.mjs): the forced cells as the released guide's own fill.sh prints them over the translation e2492351a49589bf… (all of the seat's roots in one cut). By AI agents, Wed Nov 11 2026. No macro, syntax, notation, axiom, sorry.
-/
import Derived.Test.YtpjjloaphlaokaaChecked
import GoSem.Claim
import GoSem.ClaimJoined
import GoSem.ClaimMapViews
import Derived.JoinedTies
import Derived.KernelRfl
namespace Go.Proofs.Ytpjjloaphlaokaa
/- THE CELL 'sum', in the pinned program and in every row, IS THE sha256 OF THE DUMP (.gsa) THAT YtpjjloaphlaokaaProg.lean LOADS. Nothing in Lean hashes anything: it is a label: what it is worth is what the hold of that sum in a sandbox is worth. -/
noncomputable def Try.pinned : Pinned := { name := "ytpjjloaphlaokaa", sum := "e2492351a49589bf769da050d60b8504bb8cc10b70f91e6fb5bcf9b6f07634fe", checked := Try.checked }
namespace Rows
def none {H : Type} : Left H := { results := [], args := [] }

/-- 'downspoutlaw23.DiskReads': WHATEVER THE INPUT: true; the input reads as it did. -/
def diskReadsSpec : ChangeSpec := { name := "diskReads", fn := fun _ => fun
  | [d1, d2, d3] => { results := [.lit (.bool true)], args := [d1, d2, d3] }
  | _ => none }
def diskReadsRow : OpenClaim := { program := "ytpjjloaphlaokaa", sum := "e2492351a49589bf769da050d60b8504bb8cc10b70f91e6fb5bcf9b6f07634fe", func := "downspout/downspoutlaw23.DiskReads", spec := "diskReads", unfollowed := true, recurses := true, apart := false }
def DiskReadsSaid : Prop := diskReadsRow.holds Try.pinned (OpenSpec.ofChange diskReadsSpec)

/-- ITS FALSE NEIGHBOUR: 'it returns false'. Refute it at one input. -/
def diskReadsWrong : ChangeSpec := { name := "diskReads", fn := fun _ => fun
  | [d1, d2, d3] => { results := [.lit (.bool false)], args := [d1, d2, d3] }
  | _ => none }
def DiskReadsWrongFalsely : Prop := diskReadsRow.holds Try.pinned (OpenSpec.ofChange diskReadsWrong)

/-- 'downspoutlaw23.DiskClean': WHATEVER THE INPUT: true; the input reads as it did. -/
def diskCleanSpec : ChangeSpec := { name := "diskClean", fn := fun _ => fun
  | [d1, d2, d3] => { results := [.lit (.bool true)], args := [d1, d2, d3] }
  | _ => none }
def diskCleanRow : OpenClaim := { program := "ytpjjloaphlaokaa", sum := "e2492351a49589bf769da050d60b8504bb8cc10b70f91e6fb5bcf9b6f07634fe", func := "downspout/downspoutlaw23.DiskClean", spec := "diskClean", unfollowed := true, recurses := true, apart := false }
def DiskCleanSaid : Prop := diskCleanRow.holds Try.pinned (OpenSpec.ofChange diskCleanSpec)

/-- ITS FALSE NEIGHBOUR: 'it returns false'. Refute it at one input. -/
def diskCleanWrong : ChangeSpec := { name := "diskClean", fn := fun _ => fun
  | [d1, d2, d3] => { results := [.lit (.bool false)], args := [d1, d2, d3] }
  | _ => none }
def DiskCleanWrongFalsely : Prop := diskCleanRow.holds Try.pinned (OpenSpec.ofChange diskCleanWrong)

/-- 'downspoutlaw23.DiskFences': WHATEVER THE INPUT: true; the input reads as it did. -/
def diskFencesSpec : ChangeSpec := { name := "diskFences", fn := fun _ => fun
  | [d1, d2, d3] => { results := [.lit (.bool true)], args := [d1, d2, d3] }
  | _ => none }
def diskFencesRow : OpenClaim := { program := "ytpjjloaphlaokaa", sum := "e2492351a49589bf769da050d60b8504bb8cc10b70f91e6fb5bcf9b6f07634fe", func := "downspout/downspoutlaw23.DiskFences", spec := "diskFences", unfollowed := true, recurses := true, apart := false }
def DiskFencesSaid : Prop := diskFencesRow.holds Try.pinned (OpenSpec.ofChange diskFencesSpec)

/-- ITS FALSE NEIGHBOUR: 'it returns false'. Refute it at one input. -/
def diskFencesWrong : ChangeSpec := { name := "diskFences", fn := fun _ => fun
  | [d1, d2, d3] => { results := [.lit (.bool false)], args := [d1, d2, d3] }
  | _ => none }
def DiskFencesWrongFalsely : Prop := diskFencesRow.holds Try.pinned (OpenSpec.ofChange diskFencesWrong)

/-- 'downspoutlaw23.DiskCells': WHATEVER THE INPUT: true; the input reads as it did. -/
def diskCellsSpec : ChangeSpec := { name := "diskCells", fn := fun _ => fun
  | [d1, d2, d3] => { results := [.lit (.bool true)], args := [d1, d2, d3] }
  | _ => none }
def diskCellsRow : OpenClaim := { program := "ytpjjloaphlaokaa", sum := "e2492351a49589bf769da050d60b8504bb8cc10b70f91e6fb5bcf9b6f07634fe", func := "downspout/downspoutlaw23.DiskCells", spec := "diskCells", unfollowed := true, recurses := true, apart := false }
def DiskCellsSaid : Prop := diskCellsRow.holds Try.pinned (OpenSpec.ofChange diskCellsSpec)

/-- ITS FALSE NEIGHBOUR: 'it returns false'. Refute it at one input. -/
def diskCellsWrong : ChangeSpec := { name := "diskCells", fn := fun _ => fun
  | [d1, d2, d3] => { results := [.lit (.bool false)], args := [d1, d2, d3] }
  | _ => none }
def DiskCellsWrongFalsely : Prop := diskCellsRow.holds Try.pinned (OpenSpec.ofChange diskCellsWrong)

/-- 'downspoutlaw23.DiskOrder': WHATEVER THE INPUT: true; the input reads as it did. -/
def diskOrderSpec : ChangeSpec := { name := "diskOrder", fn := fun _ => fun
  | [d1, d2, d3] => { results := [.lit (.bool true)], args := [d1, d2, d3] }
  | _ => none }
def diskOrderRow : OpenClaim := { program := "ytpjjloaphlaokaa", sum := "e2492351a49589bf769da050d60b8504bb8cc10b70f91e6fb5bcf9b6f07634fe", func := "downspout/downspoutlaw23.DiskOrder", spec := "diskOrder", unfollowed := true, recurses := true, apart := false }
def DiskOrderSaid : Prop := diskOrderRow.holds Try.pinned (OpenSpec.ofChange diskOrderSpec)

/-- ITS FALSE NEIGHBOUR: 'it returns false'. Refute it at one input. -/
def diskOrderWrong : ChangeSpec := { name := "diskOrder", fn := fun _ => fun
  | [d1, d2, d3] => { results := [.lit (.bool false)], args := [d1, d2, d3] }
  | _ => none }
def DiskOrderWrongFalsely : Prop := diskOrderRow.holds Try.pinned (OpenSpec.ofChange diskOrderWrong)

/-- 'downspoutlaw23.DiskRots': WHATEVER THE INPUT: true; the input reads as it did. -/
def diskRotsSpec : ChangeSpec := { name := "diskRots", fn := fun _ => fun
  | [d1, d2, d3] => { results := [.lit (.bool true)], args := [d1, d2, d3] }
  | _ => none }
def diskRotsRow : OpenClaim := { program := "ytpjjloaphlaokaa", sum := "e2492351a49589bf769da050d60b8504bb8cc10b70f91e6fb5bcf9b6f07634fe", func := "downspout/downspoutlaw23.DiskRots", spec := "diskRots", unfollowed := true, recurses := true, apart := false }
def DiskRotsSaid : Prop := diskRotsRow.holds Try.pinned (OpenSpec.ofChange diskRotsSpec)

/-- ITS FALSE NEIGHBOUR: 'it returns false'. Refute it at one input. -/
def diskRotsWrong : ChangeSpec := { name := "diskRots", fn := fun _ => fun
  | [d1, d2, d3] => { results := [.lit (.bool false)], args := [d1, d2, d3] }
  | _ => none }
def DiskRotsWrongFalsely : Prop := diskRotsRow.holds Try.pinned (OpenSpec.ofChange diskRotsWrong)

/- THE SECOND FORM. 'bulk': how many values and letters a reading holds, each counted each time it is reached (what is shared counts as often as it is met; a slice's spare places count too). A statement '..UptoSaid' is the law's where the arguments, and the package variables that the reading takes, are together of bulk at most 1048576: NARROWER than '..Said'. Prove '..Said' where nothing that the law and all that it calls make is longer than what came in: it says more and counts as full. Else prove '..UptoSaid'. A law counts once. -/
mutual
def uptoBulk {H : Type} : DataW H → Nat
  | .lit (.string bytes) => bytes.length + 1
  | .lit _ => 1
  | .nil => 1
  | .ptr d => uptoBulk d + 1
  | .slice elems spare => uptoBulkAll elems + uptoBulkAll spare + 1
  | .agg parts => uptoBulkAll parts + 1
  | .iface _ d => uptoBulk d + 1
  | .map entries => uptoBulkEntries entries + 1
  | .held _ => 1
def uptoBulkAll {H : Type} : List (DataW H) → Nat
  | [] => 0
  | d :: r => uptoBulk d + uptoBulkAll r
def uptoBulkEntries {H : Type} : List (Lit × DataW H) → Nat
  | [] => 0
  | x :: r => uptoBulkEntry x + uptoBulkEntries r
def uptoBulkEntry {H : Type} : Lit × DataW H → Nat
  | (.string bytes, d) => bytes.length + uptoBulk d + 1
  | (_, d) => uptoBulk d + 1
 end
def uptoSmall : (H : Type) → List (DataW H) → Bool := fun _ ds => decide (uptoBulkAll ds ≤ 1048576)
def OpenSpec.upto (s : _root_.Go.ChangeSpec) : _root_.Go.OpenSpec := { _root_.Go.OpenSpec.ofChange s with cond := some uptoSmall }

/-- 'downspoutlaw23.DiskReads', WHERE WHAT IT READS IS OF BULK AT MOST 1048576: true; the input reads as it did. -/
def diskReadsUptoRow : OpenClaim := { program := "ytpjjloaphlaokaa", sum := "e2492351a49589bf769da050d60b8504bb8cc10b70f91e6fb5bcf9b6f07634fe", func := "downspout/downspoutlaw23.DiskReads", spec := "diskReads", unfollowed := true, recurses := true, apart := false, narrowed := true }
def DiskReadsUptoSaid : Prop := diskReadsUptoRow.holds Try.pinned (OpenSpec.upto diskReadsSpec)

/-- 'downspoutlaw23.DiskClean', WHERE WHAT IT READS IS OF BULK AT MOST 1048576: true; the input reads as it did. -/
def diskCleanUptoRow : OpenClaim := { program := "ytpjjloaphlaokaa", sum := "e2492351a49589bf769da050d60b8504bb8cc10b70f91e6fb5bcf9b6f07634fe", func := "downspout/downspoutlaw23.DiskClean", spec := "diskClean", unfollowed := true, recurses := true, apart := false, narrowed := true }
def DiskCleanUptoSaid : Prop := diskCleanUptoRow.holds Try.pinned (OpenSpec.upto diskCleanSpec)

/-- 'downspoutlaw23.DiskFences', WHERE WHAT IT READS IS OF BULK AT MOST 1048576: true; the input reads as it did. -/
def diskFencesUptoRow : OpenClaim := { program := "ytpjjloaphlaokaa", sum := "e2492351a49589bf769da050d60b8504bb8cc10b70f91e6fb5bcf9b6f07634fe", func := "downspout/downspoutlaw23.DiskFences", spec := "diskFences", unfollowed := true, recurses := true, apart := false, narrowed := true }
def DiskFencesUptoSaid : Prop := diskFencesUptoRow.holds Try.pinned (OpenSpec.upto diskFencesSpec)

/-- 'downspoutlaw23.DiskCells', WHERE WHAT IT READS IS OF BULK AT MOST 1048576: true; the input reads as it did. -/
def diskCellsUptoRow : OpenClaim := { program := "ytpjjloaphlaokaa", sum := "e2492351a49589bf769da050d60b8504bb8cc10b70f91e6fb5bcf9b6f07634fe", func := "downspout/downspoutlaw23.DiskCells", spec := "diskCells", unfollowed := true, recurses := true, apart := false, narrowed := true }
def DiskCellsUptoSaid : Prop := diskCellsUptoRow.holds Try.pinned (OpenSpec.upto diskCellsSpec)

/-- 'downspoutlaw23.DiskOrder', WHERE WHAT IT READS IS OF BULK AT MOST 1048576: true; the input reads as it did. -/
def diskOrderUptoRow : OpenClaim := { program := "ytpjjloaphlaokaa", sum := "e2492351a49589bf769da050d60b8504bb8cc10b70f91e6fb5bcf9b6f07634fe", func := "downspout/downspoutlaw23.DiskOrder", spec := "diskOrder", unfollowed := true, recurses := true, apart := false, narrowed := true }
def DiskOrderUptoSaid : Prop := diskOrderUptoRow.holds Try.pinned (OpenSpec.upto diskOrderSpec)

/-- 'downspoutlaw23.DiskRots', WHERE WHAT IT READS IS OF BULK AT MOST 1048576: true; the input reads as it did. -/
def diskRotsUptoRow : OpenClaim := { program := "ytpjjloaphlaokaa", sum := "e2492351a49589bf769da050d60b8504bb8cc10b70f91e6fb5bcf9b6f07634fe", func := "downspout/downspoutlaw23.DiskRots", spec := "diskRots", unfollowed := true, recurses := true, apart := false, narrowed := true }
def DiskRotsUptoSaid : Prop := diskRotsUptoRow.holds Try.pinned (OpenSpec.upto diskRotsSpec)

end Rows
end Go.Proofs.Ytpjjloaphlaokaa
