/-
  No cell of these rows narrows 'for every input' (looked for: loops, veiled, ifaces, maps, wideKeys, modest, calm, conditions, laid).
  DERIVED. THE GIVEN ROWS OF THIS SEAT. 4 by the template 'for every input the law returns true; each argument reads behind the call as it read before'; 0 by the template 'total and deterministic' (their statements: YtjflbgfmdgbifaaTotals.lean).
  GIVEN WITH THE SEED: the statements are not yours to turn. If you find one false, say at which input.
  Laid BY PROGRAM, IN A SANDBOX (cutbox-rows.mjs): the forced cells as the released guide's own fill.sh prints them over the translation c3d12647ce4be0c4… (all of the seat's roots in one cut). By AI agents, Wed Nov 11 2026. No macro, syntax, notation, axiom, sorry.
-/
import Derived.Test.YtjflbgfmdgbifaaChecked
import GoSem.Claim
import GoSem.ClaimJoined
import GoSem.ClaimMapViews
import Derived.JoinedTies
import Derived.KernelRfl
namespace Go.Proofs.Ytjflbgfmdgbifaa
/- THE CELL 'sum', in the pinned program and in every row, IS THE sha256 OF THE DUMP (.gsa) THAT YtjflbgfmdgbifaaProg.lean LOADS. Nothing in Lean hashes anything: it is a label: what it is worth is what the hold of that sum in a sandbox is worth. -/
noncomputable def Try.pinned : Pinned := { name := "ytjflbgfmdgbifaa", sum := "c3d12647ce4be0c4c7a2782bde70a1a4c92a0ec545b4cd1523a42d9cf78d94c5", checked := Try.checked }
namespace Rows
def none {H : Type} : Left H := { results := [], args := [] }

/-- 'affiantlaw19.CallsRuns': WHATEVER THE INPUT: true; the input reads as it did. -/
def callsRunsSpec : ChangeSpec := { name := "callsRuns", fn := fun _ => fun
  | [] => { results := [.lit (.bool true)], args := [] }
  | _ => none }
def callsRunsRow : OpenClaim := { program := "ytjflbgfmdgbifaa", sum := "c3d12647ce4be0c4c7a2782bde70a1a4c92a0ec545b4cd1523a42d9cf78d94c5", func := "affiant/affiantlaw19.CallsRuns", spec := "callsRuns", apart := false }
def CallsRunsSaid : Prop := callsRunsRow.holds Try.pinned (OpenSpec.ofChange callsRunsSpec)

/-- ITS FALSE NEIGHBOUR: 'it returns false'. Refute it at one input. -/
def callsRunsWrong : ChangeSpec := { name := "callsRuns", fn := fun _ => fun
  | [] => { results := [.lit (.bool false)], args := [] }
  | _ => none }
def CallsRunsWrongFalsely : Prop := callsRunsRow.holds Try.pinned (OpenSpec.ofChange callsRunsWrong)

/-- 'affiantlaw19.CallsOrder': WHATEVER THE INPUT: true; the input reads as it did. -/
def callsOrderSpec : ChangeSpec := { name := "callsOrder", fn := fun _ => fun
  | [d1, d2] => { results := [.lit (.bool true)], args := [d1, d2] }
  | _ => none }
def callsOrderRow : OpenClaim := { program := "ytjflbgfmdgbifaa", sum := "c3d12647ce4be0c4c7a2782bde70a1a4c92a0ec545b4cd1523a42d9cf78d94c5", func := "affiant/affiantlaw19.CallsOrder", spec := "callsOrder", apart := false }
def CallsOrderSaid : Prop := callsOrderRow.holds Try.pinned (OpenSpec.ofChange callsOrderSpec)

/-- ITS FALSE NEIGHBOUR: 'it returns false'. Refute it at one input. -/
def callsOrderWrong : ChangeSpec := { name := "callsOrder", fn := fun _ => fun
  | [d1, d2] => { results := [.lit (.bool false)], args := [d1, d2] }
  | _ => none }
def CallsOrderWrongFalsely : Prop := callsOrderRow.holds Try.pinned (OpenSpec.ofChange callsOrderWrong)

/-- 'affiantlaw19.CallsFull': WHATEVER THE INPUT: true; the input reads as it did. -/
def callsFullSpec : ChangeSpec := { name := "callsFull", fn := fun _ => fun
  | [d] => { results := [.lit (.bool true)], args := [d] }
  | _ => none }
def callsFullRow : OpenClaim := { program := "ytjflbgfmdgbifaa", sum := "c3d12647ce4be0c4c7a2782bde70a1a4c92a0ec545b4cd1523a42d9cf78d94c5", func := "affiant/affiantlaw19.CallsFull", spec := "callsFull", apart := false }
def CallsFullSaid : Prop := callsFullRow.holds Try.pinned (OpenSpec.ofChange callsFullSpec)

/-- ITS FALSE NEIGHBOUR: 'it returns false'. Refute it at one input. -/
def callsFullWrong : ChangeSpec := { name := "callsFull", fn := fun _ => fun
  | [d] => { results := [.lit (.bool false)], args := [d] }
  | _ => none }
def CallsFullWrongFalsely : Prop := callsFullRow.holds Try.pinned (OpenSpec.ofChange callsFullWrong)

/-- 'affiantlaw19.CallsPlays': WHATEVER THE INPUT: true; the input reads as it did. -/
def callsPlaysSpec : ChangeSpec := { name := "callsPlays", fn := fun _ => fun
  | [d] => { results := [.lit (.bool true)], args := [d] }
  | _ => none }
def callsPlaysRow : OpenClaim := { program := "ytjflbgfmdgbifaa", sum := "c3d12647ce4be0c4c7a2782bde70a1a4c92a0ec545b4cd1523a42d9cf78d94c5", func := "affiant/affiantlaw19.CallsPlays", spec := "callsPlays", apart := false }
def CallsPlaysSaid : Prop := callsPlaysRow.holds Try.pinned (OpenSpec.ofChange callsPlaysSpec)

/-- ITS FALSE NEIGHBOUR: 'it returns false'. Refute it at one input. -/
def callsPlaysWrong : ChangeSpec := { name := "callsPlays", fn := fun _ => fun
  | [d] => { results := [.lit (.bool false)], args := [d] }
  | _ => none }
def CallsPlaysWrongFalsely : Prop := callsPlaysRow.holds Try.pinned (OpenSpec.ofChange callsPlaysWrong)

/- THE SECOND FORM. 'bulk': how many values and letters a reading holds, each counted each time it is reached (what is shared counts as often as it is met; a slice's spare places count too). A statement '..UptoSaid' is the law's where the arguments, and the package variables that the reading takes, are together of bulk at most 1048576: NARROWER than '..Said'. Prove '..Said' where nothing that the law and all that it calls make is longer than what came in: it says more and counts as full. Else prove '..UptoSaid'. A law counts once. -/
mutual
def uptoBulk {H : Type} : DataW H → Nat
  | .lit (.string bytes) => bytes.length + 1
  | .lit _ => 1
  | .nil => 1
  | .ptr d => uptoBulk d + 1
  | .slice elems spare => uptoBulkAll elems + uptoBulkAll spare + 1
  | .agg parts => uptoBulkAll parts + 1
  | .iface _ d => uptoBulk d + 1
  | .map entries => uptoBulkEntries entries + 1
  | .held _ => 1
def uptoBulkAll {H : Type} : List (DataW H) → Nat
  | [] => 0
  | d :: r => uptoBulk d + uptoBulkAll r
def uptoBulkEntries {H : Type} : List (Lit × DataW H) → Nat
  | [] => 0
  | x :: r => uptoBulkEntry x + uptoBulkEntries r
def uptoBulkEntry {H : Type} : Lit × DataW H → Nat
  | (.string bytes, d) => bytes.length + uptoBulk d + 1
  | (_, d) => uptoBulk d + 1
 end
def uptoSmall : (H : Type) → List (DataW H) → Bool := fun _ ds => decide (uptoBulkAll ds ≤ 1048576)
def OpenSpec.upto (s : _root_.Go.ChangeSpec) : _root_.Go.OpenSpec := { _root_.Go.OpenSpec.ofChange s with cond := some uptoSmall }

/-- 'affiantlaw19.CallsRuns', WHERE WHAT IT READS IS OF BULK AT MOST 1048576: true; the input reads as it did. -/
def callsRunsUptoRow : OpenClaim := { program := "ytjflbgfmdgbifaa", sum := "c3d12647ce4be0c4c7a2782bde70a1a4c92a0ec545b4cd1523a42d9cf78d94c5", func := "affiant/affiantlaw19.CallsRuns", spec := "callsRuns", apart := false, narrowed := true }
def CallsRunsUptoSaid : Prop := callsRunsUptoRow.holds Try.pinned (OpenSpec.upto callsRunsSpec)

/-- 'affiantlaw19.CallsOrder', WHERE WHAT IT READS IS OF BULK AT MOST 1048576: true; the input reads as it did. -/
def callsOrderUptoRow : OpenClaim := { program := "ytjflbgfmdgbifaa", sum := "c3d12647ce4be0c4c7a2782bde70a1a4c92a0ec545b4cd1523a42d9cf78d94c5", func := "affiant/affiantlaw19.CallsOrder", spec := "callsOrder", apart := false, narrowed := true }
def CallsOrderUptoSaid : Prop := callsOrderUptoRow.holds Try.pinned (OpenSpec.upto callsOrderSpec)

/-- 'affiantlaw19.CallsFull', WHERE WHAT IT READS IS OF BULK AT MOST 1048576: true; the input reads as it did. -/
def callsFullUptoRow : OpenClaim := { program := "ytjflbgfmdgbifaa", sum := "c3d12647ce4be0c4c7a2782bde70a1a4c92a0ec545b4cd1523a42d9cf78d94c5", func := "affiant/affiantlaw19.CallsFull", spec := "callsFull", apart := false, narrowed := true }
def CallsFullUptoSaid : Prop := callsFullUptoRow.holds Try.pinned (OpenSpec.upto callsFullSpec)

/-- 'affiantlaw19.CallsPlays', WHERE WHAT IT READS IS OF BULK AT MOST 1048576: true; the input reads as it did. -/
def callsPlaysUptoRow : OpenClaim := { program := "ytjflbgfmdgbifaa", sum := "c3d12647ce4be0c4c7a2782bde70a1a4c92a0ec545b4cd1523a42d9cf78d94c5", func := "affiant/affiantlaw19.CallsPlays", spec := "callsPlays", apart := false, narrowed := true }
def CallsPlaysUptoSaid : Prop := callsPlaysUptoRow.holds Try.pinned (OpenSpec.upto callsPlaysSpec)

end Rows
end Go.Proofs.Ytjflbgfmdgbifaa
