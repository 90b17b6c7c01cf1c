/-
  No cell of these rows narrows 'for every input' (looked for: loops, veiled, ifaces, maps, wideKeys, modest, calm, conditions, laid).
  DERIVED. THE GIVEN ROWS OF THIS SEAT. 6 by the template 'for every input the law returns true; each argument reads behind the call as it read before'; 0 by the template 'total and deterministic' (their statements: YtddejgkfgnokgaaTotals.lean).
  GIVEN WITH THE SEED: the statements are not yours to turn. If you find one false, say at which input.
  Laid BY PROGRAM, IN A SANDBOX (cutbox-rows.mjs): the forced cells as the released guide's own fill.sh prints them over the translation 64cfca49b92ba74a… (all of the seat's roots in one cut). By AI agents, Wed Nov 11 2026. No macro, syntax, notation, axiom, sorry.
-/
import Derived.Test.YtddejgkfgnokgaaChecked
import GoSem.Claim
import GoSem.ClaimJoined
import GoSem.ClaimMapViews
import Derived.JoinedTies
import Derived.KernelRfl
namespace Go.Proofs.Ytddejgkfgnokgaa
/- THE CELL 'sum', in the pinned program and in every row, IS THE sha256 OF THE DUMP (.gsa) THAT YtddejgkfgnokgaaProg.lean LOADS. Nothing in Lean hashes anything: it is a label: what it is worth is what the hold of that sum in a sandbox is worth. -/
noncomputable def Try.pinned : Pinned := { name := "ytddejgkfgnokgaa", sum := "64cfca49b92ba74aac70e6ec654d5dc47e4a720af75521357f475d4b41483e7a", checked := Try.checked }
namespace Rows
def none {H : Type} : Left H := { results := [], args := [] }

/-- 'affiantlaw21.RateRuns': WHATEVER THE INPUT: true; the input reads as it did. -/
def rateRunsSpec : ChangeSpec := { name := "rateRuns", fn := fun _ => fun
  | [] => { results := [.lit (.bool true)], args := [] }
  | _ => none }
def rateRunsRow : OpenClaim := { program := "ytddejgkfgnokgaa", sum := "64cfca49b92ba74aac70e6ec654d5dc47e4a720af75521357f475d4b41483e7a", func := "affiant/affiantlaw21.RateRuns", spec := "rateRuns", unfollowed := true, recurses := true, apart := false }
def RateRunsSaid : Prop := rateRunsRow.holds Try.pinned (OpenSpec.ofChange rateRunsSpec)

/-- ITS FALSE NEIGHBOUR: 'it returns false'. Refute it at one input. -/
def rateRunsWrong : ChangeSpec := { name := "rateRuns", fn := fun _ => fun
  | [] => { results := [.lit (.bool false)], args := [] }
  | _ => none }
def RateRunsWrongFalsely : Prop := rateRunsRow.holds Try.pinned (OpenSpec.ofChange rateRunsWrong)

/-- 'affiantlaw21.RateEdges': WHATEVER THE INPUT: true; the input reads as it did. -/
def rateEdgesSpec : ChangeSpec := { name := "rateEdges", fn := fun _ => fun
  | [d1, d2] => { results := [.lit (.bool true)], args := [d1, d2] }
  | _ => none }
def rateEdgesRow : OpenClaim := { program := "ytddejgkfgnokgaa", sum := "64cfca49b92ba74aac70e6ec654d5dc47e4a720af75521357f475d4b41483e7a", func := "affiant/affiantlaw21.RateEdges", spec := "rateEdges", unfollowed := true, recurses := true, apart := false }
def RateEdgesSaid : Prop := rateEdgesRow.holds Try.pinned (OpenSpec.ofChange rateEdgesSpec)

/-- ITS FALSE NEIGHBOUR: 'it returns false'. Refute it at one input. -/
def rateEdgesWrong : ChangeSpec := { name := "rateEdges", fn := fun _ => fun
  | [d1, d2] => { results := [.lit (.bool false)], args := [d1, d2] }
  | _ => none }
def RateEdgesWrongFalsely : Prop := rateEdgesRow.holds Try.pinned (OpenSpec.ofChange rateEdgesWrong)

/-- 'affiantlaw21.RateOrder': WHATEVER THE INPUT: true; the input reads as it did. -/
def rateOrderSpec : ChangeSpec := { name := "rateOrder", fn := fun _ => fun
  | [d1, d2, d3, d4] => { results := [.lit (.bool true)], args := [d1, d2, d3, d4] }
  | _ => none }
def rateOrderRow : OpenClaim := { program := "ytddejgkfgnokgaa", sum := "64cfca49b92ba74aac70e6ec654d5dc47e4a720af75521357f475d4b41483e7a", func := "affiant/affiantlaw21.RateOrder", spec := "rateOrder", unfollowed := true, recurses := true, apart := false }
def RateOrderSaid : Prop := rateOrderRow.holds Try.pinned (OpenSpec.ofChange rateOrderSpec)

/-- ITS FALSE NEIGHBOUR: 'it returns false'. Refute it at one input. -/
def rateOrderWrong : ChangeSpec := { name := "rateOrder", fn := fun _ => fun
  | [d1, d2, d3, d4] => { results := [.lit (.bool false)], args := [d1, d2, d3, d4] }
  | _ => none }
def RateOrderWrongFalsely : Prop := rateOrderRow.holds Try.pinned (OpenSpec.ofChange rateOrderWrong)

/-- 'affiantlaw21.RateRound': WHATEVER THE INPUT: true; the input reads as it did. -/
def rateRoundSpec : ChangeSpec := { name := "rateRound", fn := fun _ => fun
  | [d1, d2, d3, d4] => { results := [.lit (.bool true)], args := [d1, d2, d3, d4] }
  | _ => none }
def rateRoundRow : OpenClaim := { program := "ytddejgkfgnokgaa", sum := "64cfca49b92ba74aac70e6ec654d5dc47e4a720af75521357f475d4b41483e7a", func := "affiant/affiantlaw21.RateRound", spec := "rateRound", unfollowed := true, recurses := true, apart := false }
def RateRoundSaid : Prop := rateRoundRow.holds Try.pinned (OpenSpec.ofChange rateRoundSpec)

/-- ITS FALSE NEIGHBOUR: 'it returns false'. Refute it at one input. -/
def rateRoundWrong : ChangeSpec := { name := "rateRound", fn := fun _ => fun
  | [d1, d2, d3, d4] => { results := [.lit (.bool false)], args := [d1, d2, d3, d4] }
  | _ => none }
def RateRoundWrongFalsely : Prop := rateRoundRow.holds Try.pinned (OpenSpec.ofChange rateRoundWrong)

/-- 'affiantlaw21.RateLast': WHATEVER THE INPUT: true; the input reads as it did. -/
def rateLastSpec : ChangeSpec := { name := "rateLast", fn := fun _ => fun
  | [d1, d2, d3] => { results := [.lit (.bool true)], args := [d1, d2, d3] }
  | _ => none }
def rateLastRow : OpenClaim := { program := "ytddejgkfgnokgaa", sum := "64cfca49b92ba74aac70e6ec654d5dc47e4a720af75521357f475d4b41483e7a", func := "affiant/affiantlaw21.RateLast", spec := "rateLast", unfollowed := true, recurses := true, apart := false }
def RateLastSaid : Prop := rateLastRow.holds Try.pinned (OpenSpec.ofChange rateLastSpec)

/-- ITS FALSE NEIGHBOUR: 'it returns false'. Refute it at one input. -/
def rateLastWrong : ChangeSpec := { name := "rateLast", fn := fun _ => fun
  | [d1, d2, d3] => { results := [.lit (.bool false)], args := [d1, d2, d3] }
  | _ => none }
def RateLastWrongFalsely : Prop := rateLastRow.holds Try.pinned (OpenSpec.ofChange rateLastWrong)

/-- 'affiantlaw21.RatePlays': WHATEVER THE INPUT: true; the input reads as it did. -/
def ratePlaysSpec : ChangeSpec := { name := "ratePlays", fn := fun _ => fun
  | [d] => { results := [.lit (.bool true)], args := [d] }
  | _ => none }
def ratePlaysRow : OpenClaim := { program := "ytddejgkfgnokgaa", sum := "64cfca49b92ba74aac70e6ec654d5dc47e4a720af75521357f475d4b41483e7a", func := "affiant/affiantlaw21.RatePlays", spec := "ratePlays", inPlace := ["maps.clone"], unfollowed := true, recurses := true, apart := false }
def RatePlaysSaid : Prop := ratePlaysRow.holds Try.pinned (OpenSpec.ofChange ratePlaysSpec)

/-- ITS FALSE NEIGHBOUR: 'it returns false'. Refute it at one input. -/
def ratePlaysWrong : ChangeSpec := { name := "ratePlays", fn := fun _ => fun
  | [d] => { results := [.lit (.bool false)], args := [d] }
  | _ => none }
def RatePlaysWrongFalsely : Prop := ratePlaysRow.holds Try.pinned (OpenSpec.ofChange ratePlaysWrong)

/- THE SECOND FORM. 'bulk': how many values and letters a reading holds, each counted each time it is reached (what is shared counts as often as it is met; a slice's spare places count too). A statement '..UptoSaid' is the law's where the arguments, and the package variables that the reading takes, are together of bulk at most 1048576: NARROWER than '..Said'. Prove '..Said' where nothing that the law and all that it calls make is longer than what came in: it says more and counts as full. Else prove '..UptoSaid'. A law counts once. -/
mutual
def uptoBulk {H : Type} : DataW H → Nat
  | .lit (.string bytes) => bytes.length + 1
  | .lit _ => 1
  | .nil => 1
  | .ptr d => uptoBulk d + 1
  | .slice elems spare => uptoBulkAll elems + uptoBulkAll spare + 1
  | .agg parts => uptoBulkAll parts + 1
  | .iface _ d => uptoBulk d + 1
  | .map entries => uptoBulkEntries entries + 1
  | .held _ => 1
def uptoBulkAll {H : Type} : List (DataW H) → Nat
  | [] => 0
  | d :: r => uptoBulk d + uptoBulkAll r
def uptoBulkEntries {H : Type} : List (Lit × DataW H) → Nat
  | [] => 0
  | x :: r => uptoBulkEntry x + uptoBulkEntries r
def uptoBulkEntry {H : Type} : Lit × DataW H → Nat
  | (.string bytes, d) => bytes.length + uptoBulk d + 1
  | (_, d) => uptoBulk d + 1
 end
def uptoSmall : (H : Type) → List (DataW H) → Bool := fun _ ds => decide (uptoBulkAll ds ≤ 1048576)
def OpenSpec.upto (s : _root_.Go.ChangeSpec) : _root_.Go.OpenSpec := { _root_.Go.OpenSpec.ofChange s with cond := some uptoSmall }

/-- 'affiantlaw21.RateRuns', WHERE WHAT IT READS IS OF BULK AT MOST 1048576: true; the input reads as it did. -/
def rateRunsUptoRow : OpenClaim := { program := "ytddejgkfgnokgaa", sum := "64cfca49b92ba74aac70e6ec654d5dc47e4a720af75521357f475d4b41483e7a", func := "affiant/affiantlaw21.RateRuns", spec := "rateRuns", unfollowed := true, recurses := true, apart := false, narrowed := true }
def RateRunsUptoSaid : Prop := rateRunsUptoRow.holds Try.pinned (OpenSpec.upto rateRunsSpec)

/-- 'affiantlaw21.RateEdges', WHERE WHAT IT READS IS OF BULK AT MOST 1048576: true; the input reads as it did. -/
def rateEdgesUptoRow : OpenClaim := { program := "ytddejgkfgnokgaa", sum := "64cfca49b92ba74aac70e6ec654d5dc47e4a720af75521357f475d4b41483e7a", func := "affiant/affiantlaw21.RateEdges", spec := "rateEdges", unfollowed := true, recurses := true, apart := false, narrowed := true }
def RateEdgesUptoSaid : Prop := rateEdgesUptoRow.holds Try.pinned (OpenSpec.upto rateEdgesSpec)

/-- 'affiantlaw21.RateOrder', WHERE WHAT IT READS IS OF BULK AT MOST 1048576: true; the input reads as it did. -/
def rateOrderUptoRow : OpenClaim := { program := "ytddejgkfgnokgaa", sum := "64cfca49b92ba74aac70e6ec654d5dc47e4a720af75521357f475d4b41483e7a", func := "affiant/affiantlaw21.RateOrder", spec := "rateOrder", unfollowed := true, recurses := true, apart := false, narrowed := true }
def RateOrderUptoSaid : Prop := rateOrderUptoRow.holds Try.pinned (OpenSpec.upto rateOrderSpec)

/-- 'affiantlaw21.RateRound', WHERE WHAT IT READS IS OF BULK AT MOST 1048576: true; the input reads as it did. -/
def rateRoundUptoRow : OpenClaim := { program := "ytddejgkfgnokgaa", sum := "64cfca49b92ba74aac70e6ec654d5dc47e4a720af75521357f475d4b41483e7a", func := "affiant/affiantlaw21.RateRound", spec := "rateRound", unfollowed := true, recurses := true, apart := false, narrowed := true }
def RateRoundUptoSaid : Prop := rateRoundUptoRow.holds Try.pinned (OpenSpec.upto rateRoundSpec)

/-- 'affiantlaw21.RateLast', WHERE WHAT IT READS IS OF BULK AT MOST 1048576: true; the input reads as it did. -/
def rateLastUptoRow : OpenClaim := { program := "ytddejgkfgnokgaa", sum := "64cfca49b92ba74aac70e6ec654d5dc47e4a720af75521357f475d4b41483e7a", func := "affiant/affiantlaw21.RateLast", spec := "rateLast", unfollowed := true, recurses := true, apart := false, narrowed := true }
def RateLastUptoSaid : Prop := rateLastUptoRow.holds Try.pinned (OpenSpec.upto rateLastSpec)

/-- 'affiantlaw21.RatePlays', WHERE WHAT IT READS IS OF BULK AT MOST 1048576: true; the input reads as it did. -/
def ratePlaysUptoRow : OpenClaim := { program := "ytddejgkfgnokgaa", sum := "64cfca49b92ba74aac70e6ec654d5dc47e4a720af75521357f475d4b41483e7a", func := "affiant/affiantlaw21.RatePlays", spec := "ratePlays", inPlace := ["maps.clone"], unfollowed := true, recurses := true, apart := false, narrowed := true }
def RatePlaysUptoSaid : Prop := ratePlaysUptoRow.holds Try.pinned (OpenSpec.upto ratePlaysSpec)

end Rows
end Go.Proofs.Ytddejgkfgnokgaa
