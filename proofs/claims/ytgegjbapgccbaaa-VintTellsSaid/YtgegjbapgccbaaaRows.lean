/-
  No cell of these rows narrows 'for every input' (looked for: loops, veiled, ifaces, maps, wideKeys, modest, calm, conditions, laid).
  DERIVED. THE GIVEN ROWS OF THIS SEAT. 6 by the template 'for every input the law returns true; each argument reads behind the call as it read before'; 0 by the template 'total and deterministic' (their statements: YtgegjbapgccbaaaTotals.lean).
  GIVEN WITH THE SEED: the statements are not yours to turn. If you find one false, say at which input.
  Laid BY PROGRAM, IN A SANDBOX (cutbox-rows.mjs): the forced cells as the released guide's own fill.sh prints them over the translation ac0f83eea27434b7… (all of the seat's roots in one cut). By AI agents, Wed Nov 11 2026. No macro, syntax, notation, axiom, sorry.
-/
import Derived.Test.YtgegjbapgccbaaaChecked
import GoSem.Claim
import GoSem.ClaimJoined
import GoSem.ClaimMapViews
import Derived.JoinedTies
import Derived.KernelRfl
namespace Go.Proofs.Ytgegjbapgccbaaa
/- THE CELL 'sum', in the pinned program and in every row, IS THE sha256 OF THE DUMP (.gsa) THAT YtgegjbapgccbaaaProg.lean LOADS. Nothing in Lean hashes anything: it is a label: what it is worth is what the hold of that sum in a sandbox is worth. -/
noncomputable def Try.pinned : Pinned := { name := "ytgegjbapgccbaaa", sum := "ac0f83eea27434b7f16922955e7d4d83749a15b9f0d9ee2103804a851f856db4", checked := Try.checked }
namespace Rows
def none {H : Type} : Left H := { results := [], args := [] }

/-- 'affiantlaw1.VintRuns': WHATEVER THE INPUT: true; the input reads as it did. -/
def vintRunsSpec : ChangeSpec := { name := "vintRuns", fn := fun _ => fun
  | [] => { results := [.lit (.bool true)], args := [] }
  | _ => none }
def vintRunsRow : OpenClaim := { program := "ytgegjbapgccbaaa", sum := "ac0f83eea27434b7f16922955e7d4d83749a15b9f0d9ee2103804a851f856db4", func := "affiant/affiantlaw1.VintRuns", spec := "vintRuns", apart := false }
def VintRunsSaid : Prop := vintRunsRow.holds Try.pinned (OpenSpec.ofChange vintRunsSpec)

/-- ITS FALSE NEIGHBOUR: 'it returns false'. Refute it at one input. -/
def vintRunsWrong : ChangeSpec := { name := "vintRuns", fn := fun _ => fun
  | [] => { results := [.lit (.bool false)], args := [] }
  | _ => none }
def VintRunsWrongFalsely : Prop := vintRunsRow.holds Try.pinned (OpenSpec.ofChange vintRunsWrong)

/-- 'affiantlaw1.VintOnly': WHATEVER THE INPUT: true; the input reads as it did. -/
def vintOnlySpec : ChangeSpec := { name := "vintOnly", fn := fun _ => fun
  | [d1, d2, d3] => { results := [.lit (.bool true)], args := [d1, d2, d3] }
  | _ => none }
def vintOnlyRow : OpenClaim := { program := "ytgegjbapgccbaaa", sum := "ac0f83eea27434b7f16922955e7d4d83749a15b9f0d9ee2103804a851f856db4", func := "affiant/affiantlaw1.VintOnly", spec := "vintOnly", apart := false }
def VintOnlySaid : Prop := vintOnlyRow.holds Try.pinned (OpenSpec.ofChange vintOnlySpec)

/-- ITS FALSE NEIGHBOUR: 'it returns false'. Refute it at one input. -/
def vintOnlyWrong : ChangeSpec := { name := "vintOnly", fn := fun _ => fun
  | [d1, d2, d3] => { results := [.lit (.bool false)], args := [d1, d2, d3] }
  | _ => none }
def VintOnlyWrongFalsely : Prop := vintOnlyRow.holds Try.pinned (OpenSpec.ofChange vintOnlyWrong)

/-- 'affiantlaw1.VintTells': WHATEVER THE INPUT: true; the input reads as it did. -/
def vintTellsSpec : ChangeSpec := { name := "vintTells", fn := fun _ => fun
  | [d1, d2, d3] => { results := [.lit (.bool true)], args := [d1, d2, d3] }
  | _ => none }
def vintTellsRow : OpenClaim := { program := "ytgegjbapgccbaaa", sum := "ac0f83eea27434b7f16922955e7d4d83749a15b9f0d9ee2103804a851f856db4", func := "affiant/affiantlaw1.VintTells", spec := "vintTells", recurses := true, apart := false }
def VintTellsSaid : Prop := vintTellsRow.holds Try.pinned (OpenSpec.ofChange vintTellsSpec)

/-- ITS FALSE NEIGHBOUR: 'it returns false'. Refute it at one input. -/
def vintTellsWrong : ChangeSpec := { name := "vintTells", fn := fun _ => fun
  | [d1, d2, d3] => { results := [.lit (.bool false)], args := [d1, d2, d3] }
  | _ => none }
def VintTellsWrongFalsely : Prop := vintTellsRow.holds Try.pinned (OpenSpec.ofChange vintTellsWrong)

/-- 'affiantlaw1.VintTexts': WHATEVER THE INPUT: true; the input reads as it did. -/
def vintTextsSpec : ChangeSpec := { name := "vintTexts", fn := fun _ => fun
  | [d1, d2] => { results := [.lit (.bool true)], args := [d1, d2] }
  | _ => none }
def vintTextsRow : OpenClaim := { program := "ytgegjbapgccbaaa", sum := "ac0f83eea27434b7f16922955e7d4d83749a15b9f0d9ee2103804a851f856db4", func := "affiant/affiantlaw1.VintTexts", spec := "vintTexts", apart := false }
def VintTextsSaid : Prop := vintTextsRow.holds Try.pinned (OpenSpec.ofChange vintTextsSpec)

/-- ITS FALSE NEIGHBOUR: 'it returns false'. Refute it at one input. -/
def vintTextsWrong : ChangeSpec := { name := "vintTexts", fn := fun _ => fun
  | [d1, d2] => { results := [.lit (.bool false)], args := [d1, d2] }
  | _ => none }
def VintTextsWrongFalsely : Prop := vintTextsRow.holds Try.pinned (OpenSpec.ofChange vintTextsWrong)

/-- 'affiantlaw1.VintParts': WHATEVER THE INPUT: true; the input reads as it did. -/
def vintPartsSpec : ChangeSpec := { name := "vintParts", fn := fun _ => fun
  | [d1, d2, d3] => { results := [.lit (.bool true)], args := [d1, d2, d3] }
  | _ => none }
def vintPartsRow : OpenClaim := { program := "ytgegjbapgccbaaa", sum := "ac0f83eea27434b7f16922955e7d4d83749a15b9f0d9ee2103804a851f856db4", func := "affiant/affiantlaw1.VintParts", spec := "vintParts", apart := false }
def VintPartsSaid : Prop := vintPartsRow.holds Try.pinned (OpenSpec.ofChange vintPartsSpec)

/-- ITS FALSE NEIGHBOUR: 'it returns false'. Refute it at one input. -/
def vintPartsWrong : ChangeSpec := { name := "vintParts", fn := fun _ => fun
  | [d1, d2, d3] => { results := [.lit (.bool false)], args := [d1, d2, d3] }
  | _ => none }
def VintPartsWrongFalsely : Prop := vintPartsRow.holds Try.pinned (OpenSpec.ofChange vintPartsWrong)

/-- 'affiantlaw1.VintBack': WHATEVER THE INPUT: true; the input reads as it did. -/
def vintBackSpec : ChangeSpec := { name := "vintBack", fn := fun _ => fun
  | [d1, d2, d3, d4, d5] => { results := [.lit (.bool true)], args := [d1, d2, d3, d4, d5] }
  | _ => none }
def vintBackRow : OpenClaim := { program := "ytgegjbapgccbaaa", sum := "ac0f83eea27434b7f16922955e7d4d83749a15b9f0d9ee2103804a851f856db4", func := "affiant/affiantlaw1.VintBack", spec := "vintBack", apart := false }
def VintBackSaid : Prop := vintBackRow.holds Try.pinned (OpenSpec.ofChange vintBackSpec)

/-- ITS FALSE NEIGHBOUR: 'it returns false'. Refute it at one input. -/
def vintBackWrong : ChangeSpec := { name := "vintBack", fn := fun _ => fun
  | [d1, d2, d3, d4, d5] => { results := [.lit (.bool false)], args := [d1, d2, d3, d4, d5] }
  | _ => none }
def VintBackWrongFalsely : Prop := vintBackRow.holds Try.pinned (OpenSpec.ofChange vintBackWrong)

/- THE SECOND FORM. 'bulk': how many values and letters a reading holds, each counted each time it is reached (what is shared counts as often as it is met; a slice's spare places count too). A statement '..UptoSaid' is the law's where the arguments, and the package variables that the reading takes, are together of bulk at most 1048576: NARROWER than '..Said'. Prove '..Said' where nothing that the law and all that it calls make is longer than what came in: it says more and counts as full. Else prove '..UptoSaid'. A law counts once. -/
mutual
def uptoBulk {H : Type} : DataW H → Nat
  | .lit (.string bytes) => bytes.length + 1
  | .lit _ => 1
  | .nil => 1
  | .ptr d => uptoBulk d + 1
  | .slice elems spare => uptoBulkAll elems + uptoBulkAll spare + 1
  | .agg parts => uptoBulkAll parts + 1
  | .iface _ d => uptoBulk d + 1
  | .map entries => uptoBulkEntries entries + 1
  | .held _ => 1
def uptoBulkAll {H : Type} : List (DataW H) → Nat
  | [] => 0
  | d :: r => uptoBulk d + uptoBulkAll r
def uptoBulkEntries {H : Type} : List (Lit × DataW H) → Nat
  | [] => 0
  | x :: r => uptoBulkEntry x + uptoBulkEntries r
def uptoBulkEntry {H : Type} : Lit × DataW H → Nat
  | (.string bytes, d) => bytes.length + uptoBulk d + 1
  | (_, d) => uptoBulk d + 1
 end
def uptoSmall : (H : Type) → List (DataW H) → Bool := fun _ ds => decide (uptoBulkAll ds ≤ 1048576)
def OpenSpec.upto (s : _root_.Go.ChangeSpec) : _root_.Go.OpenSpec := { _root_.Go.OpenSpec.ofChange s with cond := some uptoSmall }

/-- 'affiantlaw1.VintRuns', WHERE WHAT IT READS IS OF BULK AT MOST 1048576: true; the input reads as it did. -/
def vintRunsUptoRow : OpenClaim := { program := "ytgegjbapgccbaaa", sum := "ac0f83eea27434b7f16922955e7d4d83749a15b9f0d9ee2103804a851f856db4", func := "affiant/affiantlaw1.VintRuns", spec := "vintRuns", apart := false, narrowed := true }
def VintRunsUptoSaid : Prop := vintRunsUptoRow.holds Try.pinned (OpenSpec.upto vintRunsSpec)

/-- 'affiantlaw1.VintOnly', WHERE WHAT IT READS IS OF BULK AT MOST 1048576: true; the input reads as it did. -/
def vintOnlyUptoRow : OpenClaim := { program := "ytgegjbapgccbaaa", sum := "ac0f83eea27434b7f16922955e7d4d83749a15b9f0d9ee2103804a851f856db4", func := "affiant/affiantlaw1.VintOnly", spec := "vintOnly", apart := false, narrowed := true }
def VintOnlyUptoSaid : Prop := vintOnlyUptoRow.holds Try.pinned (OpenSpec.upto vintOnlySpec)

/-- 'affiantlaw1.VintTells', WHERE WHAT IT READS IS OF BULK AT MOST 1048576: true; the input reads as it did. -/
def vintTellsUptoRow : OpenClaim := { program := "ytgegjbapgccbaaa", sum := "ac0f83eea27434b7f16922955e7d4d83749a15b9f0d9ee2103804a851f856db4", func := "affiant/affiantlaw1.VintTells", spec := "vintTells", recurses := true, apart := false, narrowed := true }
def VintTellsUptoSaid : Prop := vintTellsUptoRow.holds Try.pinned (OpenSpec.upto vintTellsSpec)

/-- 'affiantlaw1.VintTexts', WHERE WHAT IT READS IS OF BULK AT MOST 1048576: true; the input reads as it did. -/
def vintTextsUptoRow : OpenClaim := { program := "ytgegjbapgccbaaa", sum := "ac0f83eea27434b7f16922955e7d4d83749a15b9f0d9ee2103804a851f856db4", func := "affiant/affiantlaw1.VintTexts", spec := "vintTexts", apart := false, narrowed := true }
def VintTextsUptoSaid : Prop := vintTextsUptoRow.holds Try.pinned (OpenSpec.upto vintTextsSpec)

/-- 'affiantlaw1.VintParts', WHERE WHAT IT READS IS OF BULK AT MOST 1048576: true; the input reads as it did. -/
def vintPartsUptoRow : OpenClaim := { program := "ytgegjbapgccbaaa", sum := "ac0f83eea27434b7f16922955e7d4d83749a15b9f0d9ee2103804a851f856db4", func := "affiant/affiantlaw1.VintParts", spec := "vintParts", apart := false, narrowed := true }
def VintPartsUptoSaid : Prop := vintPartsUptoRow.holds Try.pinned (OpenSpec.upto vintPartsSpec)

/-- 'affiantlaw1.VintBack', WHERE WHAT IT READS IS OF BULK AT MOST 1048576: true; the input reads as it did. -/
def vintBackUptoRow : OpenClaim := { program := "ytgegjbapgccbaaa", sum := "ac0f83eea27434b7f16922955e7d4d83749a15b9f0d9ee2103804a851f856db4", func := "affiant/affiantlaw1.VintBack", spec := "vintBack", apart := false, narrowed := true }
def VintBackUptoSaid : Prop := vintBackUptoRow.holds Try.pinned (OpenSpec.upto vintBackSpec)

end Rows
end Go.Proofs.Ytgegjbapgccbaaa
