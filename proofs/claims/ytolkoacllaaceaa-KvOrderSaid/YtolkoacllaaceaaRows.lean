/-
  No cell of these rows narrows 'for every input' (looked for: loops, veiled, ifaces, maps, wideKeys, modest, calm, conditions, laid).
  DERIVED. THE GIVEN ROWS OF THIS SEAT. 4 by the template 'for every input the law returns true; each argument reads behind the call as it read before'; 0 by the template 'total and deterministic' (their statements: YtolkoacllaaceaaTotals.lean).
  GIVEN WITH THE SEED: the statements are not yours to turn. If you find one false, say at which input.
  Laid BY PROGRAM, IN A SANDBOX (cutbox-rows.mjs): the forced cells as the released guide's own fill.sh prints them over the translation 31a64410390bdc2b… (all of the seat's roots in one cut). By AI agents, Wed Nov 11 2026. No macro, syntax, notation, axiom, sorry.
-/
import Derived.Test.YtolkoacllaaceaaChecked
import GoSem.Claim
import GoSem.ClaimJoined
import GoSem.ClaimMapViews
import Derived.JoinedTies
import Derived.KernelRfl
namespace Go.Proofs.Ytolkoacllaaceaa
/- THE CELL 'sum', in the pinned program and in every row, IS THE sha256 OF THE DUMP (.gsa) THAT YtolkoacllaaceaaProg.lean LOADS. Nothing in Lean hashes anything: it is a label: what it is worth is what the hold of that sum in a sandbox is worth. -/
noncomputable def Try.pinned : Pinned := { name := "ytolkoacllaaceaa", sum := "31a64410390bdc2beb3259dbc7fb24c4efbb950e8e85ac96fde27b8ac296ef68", checked := Try.checked }
namespace Rows
def none {H : Type} : Left H := { results := [], args := [] }

/-- 'affiantlaw6.KvRuns': WHATEVER THE INPUT: true; the input reads as it did. -/
def kvRunsSpec : ChangeSpec := { name := "kvRuns", fn := fun _ => fun
  | [] => { results := [.lit (.bool true)], args := [] }
  | _ => none }
def kvRunsRow : OpenClaim := { program := "ytolkoacllaaceaa", sum := "31a64410390bdc2beb3259dbc7fb24c4efbb950e8e85ac96fde27b8ac296ef68", func := "affiant/affiantlaw6.KvRuns", spec := "kvRuns", inPlace := ["internal/bytealg.abigen_runtime_cmpstring"], unfollowed := true, recurses := true, apart := false }
def KvRunsSaid : Prop := kvRunsRow.holds Try.pinned (OpenSpec.ofChange kvRunsSpec)

/-- ITS FALSE NEIGHBOUR: 'it returns false'. Refute it at one input. -/
def kvRunsWrong : ChangeSpec := { name := "kvRuns", fn := fun _ => fun
  | [] => { results := [.lit (.bool false)], args := [] }
  | _ => none }
def KvRunsWrongFalsely : Prop := kvRunsRow.holds Try.pinned (OpenSpec.ofChange kvRunsWrong)

/-- 'affiantlaw6.KvOrder': WHATEVER THE INPUT: true; the input reads as it did. -/
def kvOrderSpec : ChangeSpec := { name := "kvOrder", fn := fun _ => fun
  | [d1, d2, d3] => { results := [.lit (.bool true)], args := [d1, d2, d3] }
  | _ => none }
def kvOrderRow : OpenClaim := { program := "ytolkoacllaaceaa", sum := "31a64410390bdc2beb3259dbc7fb24c4efbb950e8e85ac96fde27b8ac296ef68", func := "affiant/affiantlaw6.KvOrder", spec := "kvOrder", inPlace := ["internal/bytealg.abigen_runtime_cmpstring"], unfollowed := true, recurses := true, apart := false }
def KvOrderSaid : Prop := kvOrderRow.holds Try.pinned (OpenSpec.ofChange kvOrderSpec)

/-- ITS FALSE NEIGHBOUR: 'it returns false'. Refute it at one input. -/
def kvOrderWrong : ChangeSpec := { name := "kvOrder", fn := fun _ => fun
  | [d1, d2, d3] => { results := [.lit (.bool false)], args := [d1, d2, d3] }
  | _ => none }
def KvOrderWrongFalsely : Prop := kvOrderRow.holds Try.pinned (OpenSpec.ofChange kvOrderWrong)

/-- 'affiantlaw6.KvPlays': WHATEVER THE INPUT: true; the input reads as it did. -/
def kvPlaysSpec : ChangeSpec := { name := "kvPlays", fn := fun _ => fun
  | [d1, d2] => { results := [.lit (.bool true)], args := [d1, d2] }
  | _ => none }
def kvPlaysRow : OpenClaim := { program := "ytolkoacllaaceaa", sum := "31a64410390bdc2beb3259dbc7fb24c4efbb950e8e85ac96fde27b8ac296ef68", func := "affiant/affiantlaw6.KvPlays", spec := "kvPlays", inPlace := ["internal/bytealg.abigen_runtime_cmpstring"], unfollowed := true, recurses := true, apart := false }
def KvPlaysSaid : Prop := kvPlaysRow.holds Try.pinned (OpenSpec.ofChange kvPlaysSpec)

/-- ITS FALSE NEIGHBOUR: 'it returns false'. Refute it at one input. -/
def kvPlaysWrong : ChangeSpec := { name := "kvPlays", fn := fun _ => fun
  | [d1, d2] => { results := [.lit (.bool false)], args := [d1, d2] }
  | _ => none }
def KvPlaysWrongFalsely : Prop := kvPlaysRow.holds Try.pinned (OpenSpec.ofChange kvPlaysWrong)

/-- 'affiantlaw6.KvRanges': WHATEVER THE INPUT: true; the input reads as it did. -/
def kvRangesSpec : ChangeSpec := { name := "kvRanges", fn := fun _ => fun
  | [d1, d2, d3, d4, d5] => { results := [.lit (.bool true)], args := [d1, d2, d3, d4, d5] }
  | _ => none }
def kvRangesRow : OpenClaim := { program := "ytolkoacllaaceaa", sum := "31a64410390bdc2beb3259dbc7fb24c4efbb950e8e85ac96fde27b8ac296ef68", func := "affiant/affiantlaw6.KvRanges", spec := "kvRanges", inPlace := ["internal/bytealg.abigen_runtime_cmpstring"], unfollowed := true, recurses := true, apart := false }
def KvRangesSaid : Prop := kvRangesRow.holds Try.pinned (OpenSpec.ofChange kvRangesSpec)

/-- ITS FALSE NEIGHBOUR: 'it returns false'. Refute it at one input. -/
def kvRangesWrong : ChangeSpec := { name := "kvRanges", fn := fun _ => fun
  | [d1, d2, d3, d4, d5] => { results := [.lit (.bool false)], args := [d1, d2, d3, d4, d5] }
  | _ => none }
def KvRangesWrongFalsely : Prop := kvRangesRow.holds Try.pinned (OpenSpec.ofChange kvRangesWrong)

/- THE SECOND FORM. 'bulk': how many values and letters a reading holds, each counted each time it is reached (what is shared counts as often as it is met; a slice's spare places count too). A statement '..UptoSaid' is the law's where the arguments, and the package variables that the reading takes, are together of bulk at most 1048576: NARROWER than '..Said'. Prove '..Said' where nothing that the law and all that it calls make is longer than what came in: it says more and counts as full. Else prove '..UptoSaid'. A law counts once. -/
mutual
def uptoBulk {H : Type} : DataW H → Nat
  | .lit (.string bytes) => bytes.length + 1
  | .lit _ => 1
  | .nil => 1
  | .ptr d => uptoBulk d + 1
  | .slice elems spare => uptoBulkAll elems + uptoBulkAll spare + 1
  | .agg parts => uptoBulkAll parts + 1
  | .iface _ d => uptoBulk d + 1
  | .map entries => uptoBulkEntries entries + 1
  | .held _ => 1
def uptoBulkAll {H : Type} : List (DataW H) → Nat
  | [] => 0
  | d :: r => uptoBulk d + uptoBulkAll r
def uptoBulkEntries {H : Type} : List (Lit × DataW H) → Nat
  | [] => 0
  | x :: r => uptoBulkEntry x + uptoBulkEntries r
def uptoBulkEntry {H : Type} : Lit × DataW H → Nat
  | (.string bytes, d) => bytes.length + uptoBulk d + 1
  | (_, d) => uptoBulk d + 1
 end
def uptoSmall : (H : Type) → List (DataW H) → Bool := fun _ ds => decide (uptoBulkAll ds ≤ 1048576)
def OpenSpec.upto (s : _root_.Go.ChangeSpec) : _root_.Go.OpenSpec := { _root_.Go.OpenSpec.ofChange s with cond := some uptoSmall }

/-- 'affiantlaw6.KvRuns', WHERE WHAT IT READS IS OF BULK AT MOST 1048576: true; the input reads as it did. -/
def kvRunsUptoRow : OpenClaim := { program := "ytolkoacllaaceaa", sum := "31a64410390bdc2beb3259dbc7fb24c4efbb950e8e85ac96fde27b8ac296ef68", func := "affiant/affiantlaw6.KvRuns", spec := "kvRuns", inPlace := ["internal/bytealg.abigen_runtime_cmpstring"], unfollowed := true, recurses := true, apart := false, narrowed := true }
def KvRunsUptoSaid : Prop := kvRunsUptoRow.holds Try.pinned (OpenSpec.upto kvRunsSpec)

/-- 'affiantlaw6.KvOrder', WHERE WHAT IT READS IS OF BULK AT MOST 1048576: true; the input reads as it did. -/
def kvOrderUptoRow : OpenClaim := { program := "ytolkoacllaaceaa", sum := "31a64410390bdc2beb3259dbc7fb24c4efbb950e8e85ac96fde27b8ac296ef68", func := "affiant/affiantlaw6.KvOrder", spec := "kvOrder", inPlace := ["internal/bytealg.abigen_runtime_cmpstring"], unfollowed := true, recurses := true, apart := false, narrowed := true }
def KvOrderUptoSaid : Prop := kvOrderUptoRow.holds Try.pinned (OpenSpec.upto kvOrderSpec)

/-- 'affiantlaw6.KvPlays', WHERE WHAT IT READS IS OF BULK AT MOST 1048576: true; the input reads as it did. -/
def kvPlaysUptoRow : OpenClaim := { program := "ytolkoacllaaceaa", sum := "31a64410390bdc2beb3259dbc7fb24c4efbb950e8e85ac96fde27b8ac296ef68", func := "affiant/affiantlaw6.KvPlays", spec := "kvPlays", inPlace := ["internal/bytealg.abigen_runtime_cmpstring"], unfollowed := true, recurses := true, apart := false, narrowed := true }
def KvPlaysUptoSaid : Prop := kvPlaysUptoRow.holds Try.pinned (OpenSpec.upto kvPlaysSpec)

/-- 'affiantlaw6.KvRanges', WHERE WHAT IT READS IS OF BULK AT MOST 1048576: true; the input reads as it did. -/
def kvRangesUptoRow : OpenClaim := { program := "ytolkoacllaaceaa", sum := "31a64410390bdc2beb3259dbc7fb24c4efbb950e8e85ac96fde27b8ac296ef68", func := "affiant/affiantlaw6.KvRanges", spec := "kvRanges", inPlace := ["internal/bytealg.abigen_runtime_cmpstring"], unfollowed := true, recurses := true, apart := false, narrowed := true }
def KvRangesUptoSaid : Prop := kvRangesUptoRow.holds Try.pinned (OpenSpec.upto kvRangesSpec)

end Rows
end Go.Proofs.Ytolkoacllaaceaa
