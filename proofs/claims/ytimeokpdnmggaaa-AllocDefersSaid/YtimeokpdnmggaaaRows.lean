/-
  No cell of these rows narrows 'for every input' (looked for: loops, veiled, ifaces, maps, wideKeys, modest, calm, conditions, laid).
  DERIVED. THE GIVEN ROWS OF THIS SEAT. 6 by the template 'for every input the law returns true; each argument reads behind the call as it read before'; 0 by the template 'total and deterministic' (their statements: YtimeokpdnmggaaaTotals.lean).
  GIVEN WITH THE SEED: the statements are not yours to turn. If you find one false, say at which input.
  Laid BY PROGRAM, IN A SANDBOX (cutbox-rows.mjs): the forced cells as the released guide's own fill.sh prints them over the translation a839d7ae43a2c34a… (all of the seat's roots in one cut). By AI agents, Wed Nov 11 2026. No macro, syntax, notation, axiom, sorry.
-/
import Derived.Test.YtimeokpdnmggaaaChecked
import GoSem.Claim
import GoSem.ClaimJoined
import GoSem.ClaimMapViews
import Derived.JoinedTies
import Derived.KernelRfl
namespace Go.Proofs.Ytimeokpdnmggaaa
/- THE CELL 'sum', in the pinned program and in every row, IS THE sha256 OF THE DUMP (.gsa) THAT YtimeokpdnmggaaaProg.lean LOADS. Nothing in Lean hashes anything: it is a label: what it is worth is what the hold of that sum in a sandbox is worth. -/
noncomputable def Try.pinned : Pinned := { name := "ytimeokpdnmggaaa", sum := "a839d7ae43a2c34a392f18849c843e16e9e292321b57eff46ea2c00765c9699e", checked := Try.checked }
namespace Rows
def none {H : Type} : Left H := { results := [], args := [] }

/-- 'downspoutlaw25.AllocMatchesReference': WHATEVER THE INPUT: true; the input reads as it did. -/
def allocMatchesReferenceSpec : ChangeSpec := { name := "allocMatchesReference", fn := fun _ => fun
  | [d1, d2] => { results := [.lit (.bool true)], args := [d1, d2] }
  | _ => none }
def allocMatchesReferenceRow : OpenClaim := { program := "ytimeokpdnmggaaa", sum := "a839d7ae43a2c34a392f18849c843e16e9e292321b57eff46ea2c00765c9699e", func := "downspout/downspoutlaw25.AllocMatchesReference", spec := "allocMatchesReference", unfollowed := true, recurses := true, apart := false }
def AllocMatchesReferenceSaid : Prop := allocMatchesReferenceRow.holds Try.pinned (OpenSpec.ofChange allocMatchesReferenceSpec)

/-- ITS FALSE NEIGHBOUR: 'it returns false'. Refute it at one input. -/
def allocMatchesReferenceWrong : ChangeSpec := { name := "allocMatchesReference", fn := fun _ => fun
  | [d1, d2] => { results := [.lit (.bool false)], args := [d1, d2] }
  | _ => none }
def AllocMatchesReferenceWrongFalsely : Prop := allocMatchesReferenceRow.holds Try.pinned (OpenSpec.ofChange allocMatchesReferenceWrong)

/-- 'downspoutlaw25.AllocKeeps': WHATEVER THE INPUT: true; the input reads as it did. -/
def allocKeepsSpec : ChangeSpec := { name := "allocKeeps", fn := fun _ => fun
  | [d1, d2] => { results := [.lit (.bool true)], args := [d1, d2] }
  | _ => none }
def allocKeepsRow : OpenClaim := { program := "ytimeokpdnmggaaa", sum := "a839d7ae43a2c34a392f18849c843e16e9e292321b57eff46ea2c00765c9699e", func := "downspout/downspoutlaw25.AllocKeeps", spec := "allocKeeps", unfollowed := true, recurses := true, apart := false }
def AllocKeepsSaid : Prop := allocKeepsRow.holds Try.pinned (OpenSpec.ofChange allocKeepsSpec)

/-- ITS FALSE NEIGHBOUR: 'it returns false'. Refute it at one input. -/
def allocKeepsWrong : ChangeSpec := { name := "allocKeeps", fn := fun _ => fun
  | [d1, d2] => { results := [.lit (.bool false)], args := [d1, d2] }
  | _ => none }
def AllocKeepsWrongFalsely : Prop := allocKeepsRow.holds Try.pinned (OpenSpec.ofChange allocKeepsWrong)

/-- 'downspoutlaw25.AllocTakes': WHATEVER THE INPUT: true; the input reads as it did. -/
def allocTakesSpec : ChangeSpec := { name := "allocTakes", fn := fun _ => fun
  | [d] => { results := [.lit (.bool true)], args := [d] }
  | _ => none }
def allocTakesRow : OpenClaim := { program := "ytimeokpdnmggaaa", sum := "a839d7ae43a2c34a392f18849c843e16e9e292321b57eff46ea2c00765c9699e", func := "downspout/downspoutlaw25.AllocTakes", spec := "allocTakes", unfollowed := true, recurses := true, apart := false }
def AllocTakesSaid : Prop := allocTakesRow.holds Try.pinned (OpenSpec.ofChange allocTakesSpec)

/-- ITS FALSE NEIGHBOUR: 'it returns false'. Refute it at one input. -/
def allocTakesWrong : ChangeSpec := { name := "allocTakes", fn := fun _ => fun
  | [d] => { results := [.lit (.bool false)], args := [d] }
  | _ => none }
def AllocTakesWrongFalsely : Prop := allocTakesRow.holds Try.pinned (OpenSpec.ofChange allocTakesWrong)

/-- 'downspoutlaw25.AllocDefers': WHATEVER THE INPUT: true; the input reads as it did. -/
def allocDefersSpec : ChangeSpec := { name := "allocDefers", fn := fun _ => fun
  | [d1, d2] => { results := [.lit (.bool true)], args := [d1, d2] }
  | _ => none }
def allocDefersRow : OpenClaim := { program := "ytimeokpdnmggaaa", sum := "a839d7ae43a2c34a392f18849c843e16e9e292321b57eff46ea2c00765c9699e", func := "downspout/downspoutlaw25.AllocDefers", spec := "allocDefers", unfollowed := true, recurses := true, apart := false }
def AllocDefersSaid : Prop := allocDefersRow.holds Try.pinned (OpenSpec.ofChange allocDefersSpec)

/-- ITS FALSE NEIGHBOUR: 'it returns false'. Refute it at one input. -/
def allocDefersWrong : ChangeSpec := { name := "allocDefers", fn := fun _ => fun
  | [d1, d2] => { results := [.lit (.bool false)], args := [d1, d2] }
  | _ => none }
def AllocDefersWrongFalsely : Prop := allocDefersRow.holds Try.pinned (OpenSpec.ofChange allocDefersWrong)

/-- 'downspoutlaw25.AllocReserves': WHATEVER THE INPUT: true; the input reads as it did. -/
def allocReservesSpec : ChangeSpec := { name := "allocReserves", fn := fun _ => fun
  | [d1, d2, d3] => { results := [.lit (.bool true)], args := [d1, d2, d3] }
  | _ => none }
def allocReservesRow : OpenClaim := { program := "ytimeokpdnmggaaa", sum := "a839d7ae43a2c34a392f18849c843e16e9e292321b57eff46ea2c00765c9699e", func := "downspout/downspoutlaw25.AllocReserves", spec := "allocReserves", unfollowed := true, recurses := true, apart := false }
def AllocReservesSaid : Prop := allocReservesRow.holds Try.pinned (OpenSpec.ofChange allocReservesSpec)

/-- ITS FALSE NEIGHBOUR: 'it returns false'. Refute it at one input. -/
def allocReservesWrong : ChangeSpec := { name := "allocReserves", fn := fun _ => fun
  | [d1, d2, d3] => { results := [.lit (.bool false)], args := [d1, d2, d3] }
  | _ => none }
def AllocReservesWrongFalsely : Prop := allocReservesRow.holds Try.pinned (OpenSpec.ofChange allocReservesWrong)

/-- 'downspoutlaw25.AllocRefuses': WHATEVER THE INPUT: true; the input reads as it did. -/
def allocRefusesSpec : ChangeSpec := { name := "allocRefuses", fn := fun _ => fun
  | [d1, d2, d3] => { results := [.lit (.bool true)], args := [d1, d2, d3] }
  | _ => none }
def allocRefusesRow : OpenClaim := { program := "ytimeokpdnmggaaa", sum := "a839d7ae43a2c34a392f18849c843e16e9e292321b57eff46ea2c00765c9699e", func := "downspout/downspoutlaw25.AllocRefuses", spec := "allocRefuses", unfollowed := true, recurses := true, apart := false }
def AllocRefusesSaid : Prop := allocRefusesRow.holds Try.pinned (OpenSpec.ofChange allocRefusesSpec)

/-- ITS FALSE NEIGHBOUR: 'it returns false'. Refute it at one input. -/
def allocRefusesWrong : ChangeSpec := { name := "allocRefuses", fn := fun _ => fun
  | [d1, d2, d3] => { results := [.lit (.bool false)], args := [d1, d2, d3] }
  | _ => none }
def AllocRefusesWrongFalsely : Prop := allocRefusesRow.holds Try.pinned (OpenSpec.ofChange allocRefusesWrong)

/- THE SECOND FORM. 'bulk': how many values and letters a reading holds, each counted each time it is reached (what is shared counts as often as it is met; a slice's spare places count too). A statement '..UptoSaid' is the law's where the arguments, and the package variables that the reading takes, are together of bulk at most 1048576: NARROWER than '..Said'. Prove '..Said' where nothing that the law and all that it calls make is longer than what came in: it says more and counts as full. Else prove '..UptoSaid'. A law counts once. -/
mutual
def uptoBulk {H : Type} : DataW H → Nat
  | .lit (.string bytes) => bytes.length + 1
  | .lit _ => 1
  | .nil => 1
  | .ptr d => uptoBulk d + 1
  | .slice elems spare => uptoBulkAll elems + uptoBulkAll spare + 1
  | .agg parts => uptoBulkAll parts + 1
  | .iface _ d => uptoBulk d + 1
  | .map entries => uptoBulkEntries entries + 1
  | .held _ => 1
def uptoBulkAll {H : Type} : List (DataW H) → Nat
  | [] => 0
  | d :: r => uptoBulk d + uptoBulkAll r
def uptoBulkEntries {H : Type} : List (Lit × DataW H) → Nat
  | [] => 0
  | x :: r => uptoBulkEntry x + uptoBulkEntries r
def uptoBulkEntry {H : Type} : Lit × DataW H → Nat
  | (.string bytes, d) => bytes.length + uptoBulk d + 1
  | (_, d) => uptoBulk d + 1
 end
def uptoSmall : (H : Type) → List (DataW H) → Bool := fun _ ds => decide (uptoBulkAll ds ≤ 1048576)
def OpenSpec.upto (s : _root_.Go.ChangeSpec) : _root_.Go.OpenSpec := { _root_.Go.OpenSpec.ofChange s with cond := some uptoSmall }

/-- 'downspoutlaw25.AllocMatchesReference', WHERE WHAT IT READS IS OF BULK AT MOST 1048576: true; the input reads as it did. -/
def allocMatchesReferenceUptoRow : OpenClaim := { program := "ytimeokpdnmggaaa", sum := "a839d7ae43a2c34a392f18849c843e16e9e292321b57eff46ea2c00765c9699e", func := "downspout/downspoutlaw25.AllocMatchesReference", spec := "allocMatchesReference", unfollowed := true, recurses := true, apart := false, narrowed := true }
def AllocMatchesReferenceUptoSaid : Prop := allocMatchesReferenceUptoRow.holds Try.pinned (OpenSpec.upto allocMatchesReferenceSpec)

/-- 'downspoutlaw25.AllocKeeps', WHERE WHAT IT READS IS OF BULK AT MOST 1048576: true; the input reads as it did. -/
def allocKeepsUptoRow : OpenClaim := { program := "ytimeokpdnmggaaa", sum := "a839d7ae43a2c34a392f18849c843e16e9e292321b57eff46ea2c00765c9699e", func := "downspout/downspoutlaw25.AllocKeeps", spec := "allocKeeps", unfollowed := true, recurses := true, apart := false, narrowed := true }
def AllocKeepsUptoSaid : Prop := allocKeepsUptoRow.holds Try.pinned (OpenSpec.upto allocKeepsSpec)

/-- 'downspoutlaw25.AllocTakes', WHERE WHAT IT READS IS OF BULK AT MOST 1048576: true; the input reads as it did. -/
def allocTakesUptoRow : OpenClaim := { program := "ytimeokpdnmggaaa", sum := "a839d7ae43a2c34a392f18849c843e16e9e292321b57eff46ea2c00765c9699e", func := "downspout/downspoutlaw25.AllocTakes", spec := "allocTakes", unfollowed := true, recurses := true, apart := false, narrowed := true }
def AllocTakesUptoSaid : Prop := allocTakesUptoRow.holds Try.pinned (OpenSpec.upto allocTakesSpec)

/-- 'downspoutlaw25.AllocDefers', WHERE WHAT IT READS IS OF BULK AT MOST 1048576: true; the input reads as it did. -/
def allocDefersUptoRow : OpenClaim := { program := "ytimeokpdnmggaaa", sum := "a839d7ae43a2c34a392f18849c843e16e9e292321b57eff46ea2c00765c9699e", func := "downspout/downspoutlaw25.AllocDefers", spec := "allocDefers", unfollowed := true, recurses := true, apart := false, narrowed := true }
def AllocDefersUptoSaid : Prop := allocDefersUptoRow.holds Try.pinned (OpenSpec.upto allocDefersSpec)

/-- 'downspoutlaw25.AllocReserves', WHERE WHAT IT READS IS OF BULK AT MOST 1048576: true; the input reads as it did. -/
def allocReservesUptoRow : OpenClaim := { program := "ytimeokpdnmggaaa", sum := "a839d7ae43a2c34a392f18849c843e16e9e292321b57eff46ea2c00765c9699e", func := "downspout/downspoutlaw25.AllocReserves", spec := "allocReserves", unfollowed := true, recurses := true, apart := false, narrowed := true }
def AllocReservesUptoSaid : Prop := allocReservesUptoRow.holds Try.pinned (OpenSpec.upto allocReservesSpec)

/-- 'downspoutlaw25.AllocRefuses', WHERE WHAT IT READS IS OF BULK AT MOST 1048576: true; the input reads as it did. -/
def allocRefusesUptoRow : OpenClaim := { program := "ytimeokpdnmggaaa", sum := "a839d7ae43a2c34a392f18849c843e16e9e292321b57eff46ea2c00765c9699e", func := "downspout/downspoutlaw25.AllocRefuses", spec := "allocRefuses", unfollowed := true, recurses := true, apart := false, narrowed := true }
def AllocRefusesUptoSaid : Prop := allocRefusesUptoRow.holds Try.pinned (OpenSpec.upto allocRefusesSpec)

end Rows
end Go.Proofs.Ytimeokpdnmggaaa
