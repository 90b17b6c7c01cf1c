/-
  No cell of these rows narrows 'for every input' (looked for: loops, veiled, ifaces, maps, wideKeys, modest, calm, conditions, laid).
  DERIVED. THE GIVEN ROWS OF THIS SEAT. 6 by the template 'for every input the law returns true; each argument reads behind the call as it read before'; 0 by the template 'total and deterministic' (their statements: YtledddhagpgfaaaTotals.lean).
  GIVEN WITH THE SEED: the statements are not yours to turn. If you find one false, say at which input.
  Laid BY PROGRAM, IN A SANDBOX (cutbox-rows.mjs): the forced cells as the released guide's own fill.sh prints them over the translation 13485a9c84a05743… (all of the seat's roots in one cut). By AI agents, Wed Nov 11 2026. No macro, syntax, notation, axiom, sorry.
-/
import Derived.Test.YtledddhagpgfaaaChecked
import GoSem.Claim
import GoSem.ClaimJoined
import GoSem.ClaimMapViews
import Derived.JoinedTies
import Derived.KernelRfl
namespace Go.Proofs.Ytledddhagpgfaaa
/- THE CELL 'sum', in the pinned program and in every row, IS THE sha256 OF THE DUMP (.gsa) THAT YtledddhagpgfaaaProg.lean LOADS. Nothing in Lean hashes anything: it is a label: what it is worth is what the hold of that sum in a sandbox is worth. -/
noncomputable def Try.pinned : Pinned := { name := "ytledddhagpgfaaa", sum := "13485a9c84a057439fac4b9abd4c5ec60aa23ea4e2a53e8353613f57635da751", checked := Try.checked }
namespace Rows
def none {H : Type} : Left H := { results := [], args := [] }

/-- 'affiantlaw16.QueryRuns': WHATEVER THE INPUT: true; the input reads as it did. -/
def queryRunsSpec : ChangeSpec := { name := "queryRuns", fn := fun _ => fun
  | [] => { results := [.lit (.bool true)], args := [] }
  | _ => none }
def queryRunsRow : OpenClaim := { program := "ytledddhagpgfaaa", sum := "13485a9c84a057439fac4b9abd4c5ec60aa23ea4e2a53e8353613f57635da751", func := "affiant/affiantlaw16.QueryRuns", spec := "queryRuns", unfollowed := true, recurses := true, apart := false }
def QueryRunsSaid : Prop := queryRunsRow.holds Try.pinned (OpenSpec.ofChange queryRunsSpec)

/-- ITS FALSE NEIGHBOUR: 'it returns false'. Refute it at one input. -/
def queryRunsWrong : ChangeSpec := { name := "queryRuns", fn := fun _ => fun
  | [] => { results := [.lit (.bool false)], args := [] }
  | _ => none }
def QueryRunsWrongFalsely : Prop := queryRunsRow.holds Try.pinned (OpenSpec.ofChange queryRunsWrong)

/-- 'affiantlaw16.QueryLimits': WHATEVER THE INPUT: true; the input reads as it did. -/
def queryLimitsSpec : ChangeSpec := { name := "queryLimits", fn := fun _ => fun
  | [d1, d2, d3] => { results := [.lit (.bool true)], args := [d1, d2, d3] }
  | _ => none }
def queryLimitsRow : OpenClaim := { program := "ytledddhagpgfaaa", sum := "13485a9c84a057439fac4b9abd4c5ec60aa23ea4e2a53e8353613f57635da751", func := "affiant/affiantlaw16.QueryLimits", spec := "queryLimits", unfollowed := true, recurses := true, apart := false }
def QueryLimitsSaid : Prop := queryLimitsRow.holds Try.pinned (OpenSpec.ofChange queryLimitsSpec)

/-- ITS FALSE NEIGHBOUR: 'it returns false'. Refute it at one input. -/
def queryLimitsWrong : ChangeSpec := { name := "queryLimits", fn := fun _ => fun
  | [d1, d2, d3] => { results := [.lit (.bool false)], args := [d1, d2, d3] }
  | _ => none }
def QueryLimitsWrongFalsely : Prop := queryLimitsRow.holds Try.pinned (OpenSpec.ofChange queryLimitsWrong)

/-- 'affiantlaw16.QueryPeriods': WHATEVER THE INPUT: true; the input reads as it did. -/
def queryPeriodsSpec : ChangeSpec := { name := "queryPeriods", fn := fun _ => fun
  | [d1, d2, d3, d4] => { results := [.lit (.bool true)], args := [d1, d2, d3, d4] }
  | _ => none }
def queryPeriodsRow : OpenClaim := { program := "ytledddhagpgfaaa", sum := "13485a9c84a057439fac4b9abd4c5ec60aa23ea4e2a53e8353613f57635da751", func := "affiant/affiantlaw16.QueryPeriods", spec := "queryPeriods", unfollowed := true, recurses := true, apart := false }
def QueryPeriodsSaid : Prop := queryPeriodsRow.holds Try.pinned (OpenSpec.ofChange queryPeriodsSpec)

/-- ITS FALSE NEIGHBOUR: 'it returns false'. Refute it at one input. -/
def queryPeriodsWrong : ChangeSpec := { name := "queryPeriods", fn := fun _ => fun
  | [d1, d2, d3, d4] => { results := [.lit (.bool false)], args := [d1, d2, d3, d4] }
  | _ => none }
def QueryPeriodsWrongFalsely : Prop := queryPeriodsRow.holds Try.pinned (OpenSpec.ofChange queryPeriodsWrong)

/-- 'affiantlaw16.QueryMany': WHATEVER THE INPUT: true; the input reads as it did. -/
def queryManySpec : ChangeSpec := { name := "queryMany", fn := fun _ => fun
  | [d1, d2] => { results := [.lit (.bool true)], args := [d1, d2] }
  | _ => none }
def queryManyRow : OpenClaim := { program := "ytledddhagpgfaaa", sum := "13485a9c84a057439fac4b9abd4c5ec60aa23ea4e2a53e8353613f57635da751", func := "affiant/affiantlaw16.QueryMany", spec := "queryMany", unfollowed := true, recurses := true, apart := false }
def QueryManySaid : Prop := queryManyRow.holds Try.pinned (OpenSpec.ofChange queryManySpec)

/-- ITS FALSE NEIGHBOUR: 'it returns false'. Refute it at one input. -/
def queryManyWrong : ChangeSpec := { name := "queryMany", fn := fun _ => fun
  | [d1, d2] => { results := [.lit (.bool false)], args := [d1, d2] }
  | _ => none }
def QueryManyWrongFalsely : Prop := queryManyRow.holds Try.pinned (OpenSpec.ofChange queryManyWrong)

/-- 'affiantlaw16.QueryShut': WHATEVER THE INPUT: true; the input reads as it did. -/
def queryShutSpec : ChangeSpec := { name := "queryShut", fn := fun _ => fun
  | [d1, d2, d3] => { results := [.lit (.bool true)], args := [d1, d2, d3] }
  | _ => none }
def queryShutRow : OpenClaim := { program := "ytledddhagpgfaaa", sum := "13485a9c84a057439fac4b9abd4c5ec60aa23ea4e2a53e8353613f57635da751", func := "affiant/affiantlaw16.QueryShut", spec := "queryShut", unfollowed := true, recurses := true, apart := false }
def QueryShutSaid : Prop := queryShutRow.holds Try.pinned (OpenSpec.ofChange queryShutSpec)

/-- ITS FALSE NEIGHBOUR: 'it returns false'. Refute it at one input. -/
def queryShutWrong : ChangeSpec := { name := "queryShut", fn := fun _ => fun
  | [d1, d2, d3] => { results := [.lit (.bool false)], args := [d1, d2, d3] }
  | _ => none }
def QueryShutWrongFalsely : Prop := queryShutRow.holds Try.pinned (OpenSpec.ofChange queryShutWrong)

/-- 'affiantlaw16.QueryPlays': WHATEVER THE INPUT: true; the input reads as it did. -/
def queryPlaysSpec : ChangeSpec := { name := "queryPlays", fn := fun _ => fun
  | [d] => { results := [.lit (.bool true)], args := [d] }
  | _ => none }
def queryPlaysRow : OpenClaim := { program := "ytledddhagpgfaaa", sum := "13485a9c84a057439fac4b9abd4c5ec60aa23ea4e2a53e8353613f57635da751", func := "affiant/affiantlaw16.QueryPlays", spec := "queryPlays", inPlace := ["maps.clone"], unfollowed := true, recurses := true, apart := false }
def QueryPlaysSaid : Prop := queryPlaysRow.holds Try.pinned (OpenSpec.ofChange queryPlaysSpec)

/-- ITS FALSE NEIGHBOUR: 'it returns false'. Refute it at one input. -/
def queryPlaysWrong : ChangeSpec := { name := "queryPlays", fn := fun _ => fun
  | [d] => { results := [.lit (.bool false)], args := [d] }
  | _ => none }
def QueryPlaysWrongFalsely : Prop := queryPlaysRow.holds Try.pinned (OpenSpec.ofChange queryPlaysWrong)

/- THE SECOND FORM. 'bulk': how many values and letters a reading holds, each counted each time it is reached (what is shared counts as often as it is met; a slice's spare places count too). A statement '..UptoSaid' is the law's where the arguments, and the package variables that the reading takes, are together of bulk at most 1048576: NARROWER than '..Said'. Prove '..Said' where nothing that the law and all that it calls make is longer than what came in: it says more and counts as full. Else prove '..UptoSaid'. A law counts once. -/
mutual
def uptoBulk {H : Type} : DataW H → Nat
  | .lit (.string bytes) => bytes.length + 1
  | .lit _ => 1
  | .nil => 1
  | .ptr d => uptoBulk d + 1
  | .slice elems spare => uptoBulkAll elems + uptoBulkAll spare + 1
  | .agg parts => uptoBulkAll parts + 1
  | .iface _ d => uptoBulk d + 1
  | .map entries => uptoBulkEntries entries + 1
  | .held _ => 1
def uptoBulkAll {H : Type} : List (DataW H) → Nat
  | [] => 0
  | d :: r => uptoBulk d + uptoBulkAll r
def uptoBulkEntries {H : Type} : List (Lit × DataW H) → Nat
  | [] => 0
  | x :: r => uptoBulkEntry x + uptoBulkEntries r
def uptoBulkEntry {H : Type} : Lit × DataW H → Nat
  | (.string bytes, d) => bytes.length + uptoBulk d + 1
  | (_, d) => uptoBulk d + 1
 end
def uptoSmall : (H : Type) → List (DataW H) → Bool := fun _ ds => decide (uptoBulkAll ds ≤ 1048576)
def OpenSpec.upto (s : _root_.Go.ChangeSpec) : _root_.Go.OpenSpec := { _root_.Go.OpenSpec.ofChange s with cond := some uptoSmall }

/-- 'affiantlaw16.QueryRuns', WHERE WHAT IT READS IS OF BULK AT MOST 1048576: true; the input reads as it did. -/
def queryRunsUptoRow : OpenClaim := { program := "ytledddhagpgfaaa", sum := "13485a9c84a057439fac4b9abd4c5ec60aa23ea4e2a53e8353613f57635da751", func := "affiant/affiantlaw16.QueryRuns", spec := "queryRuns", unfollowed := true, recurses := true, apart := false, narrowed := true }
def QueryRunsUptoSaid : Prop := queryRunsUptoRow.holds Try.pinned (OpenSpec.upto queryRunsSpec)

/-- 'affiantlaw16.QueryLimits', WHERE WHAT IT READS IS OF BULK AT MOST 1048576: true; the input reads as it did. -/
def queryLimitsUptoRow : OpenClaim := { program := "ytledddhagpgfaaa", sum := "13485a9c84a057439fac4b9abd4c5ec60aa23ea4e2a53e8353613f57635da751", func := "affiant/affiantlaw16.QueryLimits", spec := "queryLimits", unfollowed := true, recurses := true, apart := false, narrowed := true }
def QueryLimitsUptoSaid : Prop := queryLimitsUptoRow.holds Try.pinned (OpenSpec.upto queryLimitsSpec)

/-- 'affiantlaw16.QueryPeriods', WHERE WHAT IT READS IS OF BULK AT MOST 1048576: true; the input reads as it did. -/
def queryPeriodsUptoRow : OpenClaim := { program := "ytledddhagpgfaaa", sum := "13485a9c84a057439fac4b9abd4c5ec60aa23ea4e2a53e8353613f57635da751", func := "affiant/affiantlaw16.QueryPeriods", spec := "queryPeriods", unfollowed := true, recurses := true, apart := false, narrowed := true }
def QueryPeriodsUptoSaid : Prop := queryPeriodsUptoRow.holds Try.pinned (OpenSpec.upto queryPeriodsSpec)

/-- 'affiantlaw16.QueryMany', WHERE WHAT IT READS IS OF BULK AT MOST 1048576: true; the input reads as it did. -/
def queryManyUptoRow : OpenClaim := { program := "ytledddhagpgfaaa", sum := "13485a9c84a057439fac4b9abd4c5ec60aa23ea4e2a53e8353613f57635da751", func := "affiant/affiantlaw16.QueryMany", spec := "queryMany", unfollowed := true, recurses := true, apart := false, narrowed := true }
def QueryManyUptoSaid : Prop := queryManyUptoRow.holds Try.pinned (OpenSpec.upto queryManySpec)

/-- 'affiantlaw16.QueryShut', WHERE WHAT IT READS IS OF BULK AT MOST 1048576: true; the input reads as it did. -/
def queryShutUptoRow : OpenClaim := { program := "ytledddhagpgfaaa", sum := "13485a9c84a057439fac4b9abd4c5ec60aa23ea4e2a53e8353613f57635da751", func := "affiant/affiantlaw16.QueryShut", spec := "queryShut", unfollowed := true, recurses := true, apart := false, narrowed := true }
def QueryShutUptoSaid : Prop := queryShutUptoRow.holds Try.pinned (OpenSpec.upto queryShutSpec)

/-- 'affiantlaw16.QueryPlays', WHERE WHAT IT READS IS OF BULK AT MOST 1048576: true; the input reads as it did. -/
def queryPlaysUptoRow : OpenClaim := { program := "ytledddhagpgfaaa", sum := "13485a9c84a057439fac4b9abd4c5ec60aa23ea4e2a53e8353613f57635da751", func := "affiant/affiantlaw16.QueryPlays", spec := "queryPlays", inPlace := ["maps.clone"], unfollowed := true, recurses := true, apart := false, narrowed := true }
def QueryPlaysUptoSaid : Prop := queryPlaysUptoRow.holds Try.pinned (OpenSpec.upto queryPlaysSpec)

end Rows
end Go.Proofs.Ytledddhagpgfaaa
