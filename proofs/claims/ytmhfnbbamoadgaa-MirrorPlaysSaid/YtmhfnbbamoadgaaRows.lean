/-
  No cell of these rows narrows 'for every input' (looked for: loops, veiled, ifaces, maps, wideKeys, modest, calm, conditions, laid).
  DERIVED. THE GIVEN ROWS OF THIS SEAT. 5 by the template 'for every input the law returns true; each argument reads behind the call as it read before'; 0 by the template 'total and deterministic' (their statements: YtmhfnbbamoadgaaTotals.lean).
  GIVEN WITH THE SEED: the statements are not yours to turn. If you find one false, say at which input.
  Laid BY PROGRAM, IN A SANDBOX (cutbox-rows.mjs): the forced cells as the released guide's own fill.sh prints them over the translation 22f82d461a6396ee… (all of the seat's roots in one cut). By AI agents, Wed Nov 11 2026. No macro, syntax, notation, axiom, sorry.
-/
import Derived.Test.YtmhfnbbamoadgaaChecked
import GoSem.Claim
import GoSem.ClaimJoined
import GoSem.ClaimMapViews
import Derived.JoinedTies
import Derived.KernelRfl
namespace Go.Proofs.Ytmhfnbbamoadgaa
/- THE CELL 'sum', in the pinned program and in every row, IS THE sha256 OF THE DUMP (.gsa) THAT YtmhfnbbamoadgaaProg.lean LOADS. Nothing in Lean hashes anything: it is a label: what it is worth is what the hold of that sum in a sandbox is worth. -/
noncomputable def Try.pinned : Pinned := { name := "ytmhfnbbamoadgaa", sum := "22f82d461a6396ee3c840762c62840dfd93c2a6bc40b5e0a46e4db681fe58a0a", checked := Try.checked }
namespace Rows
def none {H : Type} : Left H := { results := [], args := [] }

/-- 'affiantlaw20.MirrorRuns': WHATEVER THE INPUT: true; the input reads as it did. -/
def mirrorRunsSpec : ChangeSpec := { name := "mirrorRuns", fn := fun _ => fun
  | [] => { results := [.lit (.bool true)], args := [] }
  | _ => none }
def mirrorRunsRow : OpenClaim := { program := "ytmhfnbbamoadgaa", sum := "22f82d461a6396ee3c840762c62840dfd93c2a6bc40b5e0a46e4db681fe58a0a", func := "affiant/affiantlaw20.MirrorRuns", spec := "mirrorRuns", unfollowed := true, recurses := true, apart := false }
def MirrorRunsSaid : Prop := mirrorRunsRow.holds Try.pinned (OpenSpec.ofChange mirrorRunsSpec)

/-- ITS FALSE NEIGHBOUR: 'it returns false'. Refute it at one input. -/
def mirrorRunsWrong : ChangeSpec := { name := "mirrorRuns", fn := fun _ => fun
  | [] => { results := [.lit (.bool false)], args := [] }
  | _ => none }
def MirrorRunsWrongFalsely : Prop := mirrorRunsRow.holds Try.pinned (OpenSpec.ofChange mirrorRunsWrong)

/-- 'affiantlaw20.MirrorBack': WHATEVER THE INPUT: true; the input reads as it did. -/
def mirrorBackSpec : ChangeSpec := { name := "mirrorBack", fn := fun _ => fun
  | [d1, d2, d3] => { results := [.lit (.bool true)], args := [d1, d2, d3] }
  | _ => none }
def mirrorBackRow : OpenClaim := { program := "ytmhfnbbamoadgaa", sum := "22f82d461a6396ee3c840762c62840dfd93c2a6bc40b5e0a46e4db681fe58a0a", func := "affiant/affiantlaw20.MirrorBack", spec := "mirrorBack", unfollowed := true, recurses := true, apart := false }
def MirrorBackSaid : Prop := mirrorBackRow.holds Try.pinned (OpenSpec.ofChange mirrorBackSpec)

/-- ITS FALSE NEIGHBOUR: 'it returns false'. Refute it at one input. -/
def mirrorBackWrong : ChangeSpec := { name := "mirrorBack", fn := fun _ => fun
  | [d1, d2, d3] => { results := [.lit (.bool false)], args := [d1, d2, d3] }
  | _ => none }
def MirrorBackWrongFalsely : Prop := mirrorBackRow.holds Try.pinned (OpenSpec.ofChange mirrorBackWrong)

/-- 'affiantlaw20.MirrorForms': WHATEVER THE INPUT: true; the input reads as it did. -/
def mirrorFormsSpec : ChangeSpec := { name := "mirrorForms", fn := fun _ => fun
  | [d1, d2, d3] => { results := [.lit (.bool true)], args := [d1, d2, d3] }
  | _ => none }
def mirrorFormsRow : OpenClaim := { program := "ytmhfnbbamoadgaa", sum := "22f82d461a6396ee3c840762c62840dfd93c2a6bc40b5e0a46e4db681fe58a0a", func := "affiant/affiantlaw20.MirrorForms", spec := "mirrorForms", unfollowed := true, recurses := true, apart := false }
def MirrorFormsSaid : Prop := mirrorFormsRow.holds Try.pinned (OpenSpec.ofChange mirrorFormsSpec)

/-- ITS FALSE NEIGHBOUR: 'it returns false'. Refute it at one input. -/
def mirrorFormsWrong : ChangeSpec := { name := "mirrorForms", fn := fun _ => fun
  | [d1, d2, d3] => { results := [.lit (.bool false)], args := [d1, d2, d3] }
  | _ => none }
def MirrorFormsWrongFalsely : Prop := mirrorFormsRow.holds Try.pinned (OpenSpec.ofChange mirrorFormsWrong)

/-- 'affiantlaw20.MirrorPlays': WHATEVER THE INPUT: true; the input reads as it did. -/
def mirrorPlaysSpec : ChangeSpec := { name := "mirrorPlays", fn := fun _ => fun
  | [d1, d2, d3] => { results := [.lit (.bool true)], args := [d1, d2, d3] }
  | _ => none }
def mirrorPlaysRow : OpenClaim := { program := "ytmhfnbbamoadgaa", sum := "22f82d461a6396ee3c840762c62840dfd93c2a6bc40b5e0a46e4db681fe58a0a", func := "affiant/affiantlaw20.MirrorPlays", spec := "mirrorPlays", unfollowed := true, recurses := true, apart := false }
def MirrorPlaysSaid : Prop := mirrorPlaysRow.holds Try.pinned (OpenSpec.ofChange mirrorPlaysSpec)

/-- ITS FALSE NEIGHBOUR: 'it returns false'. Refute it at one input. -/
def mirrorPlaysWrong : ChangeSpec := { name := "mirrorPlays", fn := fun _ => fun
  | [d1, d2, d3] => { results := [.lit (.bool false)], args := [d1, d2, d3] }
  | _ => none }
def MirrorPlaysWrongFalsely : Prop := mirrorPlaysRow.holds Try.pinned (OpenSpec.ofChange mirrorPlaysWrong)

/-- 'affiantlaw20.MirrorWhole': WHATEVER THE INPUT: true; the input reads as it did. -/
def mirrorWholeSpec : ChangeSpec := { name := "mirrorWhole", fn := fun _ => fun
  | [d1, d2] => { results := [.lit (.bool true)], args := [d1, d2] }
  | _ => none }
def mirrorWholeRow : OpenClaim := { program := "ytmhfnbbamoadgaa", sum := "22f82d461a6396ee3c840762c62840dfd93c2a6bc40b5e0a46e4db681fe58a0a", func := "affiant/affiantlaw20.MirrorWhole", spec := "mirrorWhole", inPlace := ["internal/bytealg.abigen_runtime_cmpstring"], unfollowed := true, recurses := true, apart := false }
def MirrorWholeSaid : Prop := mirrorWholeRow.holds Try.pinned (OpenSpec.ofChange mirrorWholeSpec)

/-- ITS FALSE NEIGHBOUR: 'it returns false'. Refute it at one input. -/
def mirrorWholeWrong : ChangeSpec := { name := "mirrorWhole", fn := fun _ => fun
  | [d1, d2] => { results := [.lit (.bool false)], args := [d1, d2] }
  | _ => none }
def MirrorWholeWrongFalsely : Prop := mirrorWholeRow.holds Try.pinned (OpenSpec.ofChange mirrorWholeWrong)

/- THE SECOND FORM. 'bulk': how many values and letters a reading holds, each counted each time it is reached (what is shared counts as often as it is met; a slice's spare places count too). A statement '..UptoSaid' is the law's where the arguments, and the package variables that the reading takes, are together of bulk at most 1048576: NARROWER than '..Said'. Prove '..Said' where nothing that the law and all that it calls make is longer than what came in: it says more and counts as full. Else prove '..UptoSaid'. A law counts once. -/
mutual
def uptoBulk {H : Type} : DataW H → Nat
  | .lit (.string bytes) => bytes.length + 1
  | .lit _ => 1
  | .nil => 1
  | .ptr d => uptoBulk d + 1
  | .slice elems spare => uptoBulkAll elems + uptoBulkAll spare + 1
  | .agg parts => uptoBulkAll parts + 1
  | .iface _ d => uptoBulk d + 1
  | .map entries => uptoBulkEntries entries + 1
  | .held _ => 1
def uptoBulkAll {H : Type} : List (DataW H) → Nat
  | [] => 0
  | d :: r => uptoBulk d + uptoBulkAll r
def uptoBulkEntries {H : Type} : List (Lit × DataW H) → Nat
  | [] => 0
  | x :: r => uptoBulkEntry x + uptoBulkEntries r
def uptoBulkEntry {H : Type} : Lit × DataW H → Nat
  | (.string bytes, d) => bytes.length + uptoBulk d + 1
  | (_, d) => uptoBulk d + 1
 end
def uptoSmall : (H : Type) → List (DataW H) → Bool := fun _ ds => decide (uptoBulkAll ds ≤ 1048576)
def OpenSpec.upto (s : _root_.Go.ChangeSpec) : _root_.Go.OpenSpec := { _root_.Go.OpenSpec.ofChange s with cond := some uptoSmall }

/-- 'affiantlaw20.MirrorRuns', WHERE WHAT IT READS IS OF BULK AT MOST 1048576: true; the input reads as it did. -/
def mirrorRunsUptoRow : OpenClaim := { program := "ytmhfnbbamoadgaa", sum := "22f82d461a6396ee3c840762c62840dfd93c2a6bc40b5e0a46e4db681fe58a0a", func := "affiant/affiantlaw20.MirrorRuns", spec := "mirrorRuns", unfollowed := true, recurses := true, apart := false, narrowed := true }
def MirrorRunsUptoSaid : Prop := mirrorRunsUptoRow.holds Try.pinned (OpenSpec.upto mirrorRunsSpec)

/-- 'affiantlaw20.MirrorBack', WHERE WHAT IT READS IS OF BULK AT MOST 1048576: true; the input reads as it did. -/
def mirrorBackUptoRow : OpenClaim := { program := "ytmhfnbbamoadgaa", sum := "22f82d461a6396ee3c840762c62840dfd93c2a6bc40b5e0a46e4db681fe58a0a", func := "affiant/affiantlaw20.MirrorBack", spec := "mirrorBack", unfollowed := true, recurses := true, apart := false, narrowed := true }
def MirrorBackUptoSaid : Prop := mirrorBackUptoRow.holds Try.pinned (OpenSpec.upto mirrorBackSpec)

/-- 'affiantlaw20.MirrorForms', WHERE WHAT IT READS IS OF BULK AT MOST 1048576: true; the input reads as it did. -/
def mirrorFormsUptoRow : OpenClaim := { program := "ytmhfnbbamoadgaa", sum := "22f82d461a6396ee3c840762c62840dfd93c2a6bc40b5e0a46e4db681fe58a0a", func := "affiant/affiantlaw20.MirrorForms", spec := "mirrorForms", unfollowed := true, recurses := true, apart := false, narrowed := true }
def MirrorFormsUptoSaid : Prop := mirrorFormsUptoRow.holds Try.pinned (OpenSpec.upto mirrorFormsSpec)

/-- 'affiantlaw20.MirrorPlays', WHERE WHAT IT READS IS OF BULK AT MOST 1048576: true; the input reads as it did. -/
def mirrorPlaysUptoRow : OpenClaim := { program := "ytmhfnbbamoadgaa", sum := "22f82d461a6396ee3c840762c62840dfd93c2a6bc40b5e0a46e4db681fe58a0a", func := "affiant/affiantlaw20.MirrorPlays", spec := "mirrorPlays", unfollowed := true, recurses := true, apart := false, narrowed := true }
def MirrorPlaysUptoSaid : Prop := mirrorPlaysUptoRow.holds Try.pinned (OpenSpec.upto mirrorPlaysSpec)

/-- 'affiantlaw20.MirrorWhole', WHERE WHAT IT READS IS OF BULK AT MOST 1048576: true; the input reads as it did. -/
def mirrorWholeUptoRow : OpenClaim := { program := "ytmhfnbbamoadgaa", sum := "22f82d461a6396ee3c840762c62840dfd93c2a6bc40b5e0a46e4db681fe58a0a", func := "affiant/affiantlaw20.MirrorWhole", spec := "mirrorWhole", inPlace := ["internal/bytealg.abigen_runtime_cmpstring"], unfollowed := true, recurses := true, apart := false, narrowed := true }
def MirrorWholeUptoSaid : Prop := mirrorWholeUptoRow.holds Try.pinned (OpenSpec.upto mirrorWholeSpec)

end Rows
end Go.Proofs.Ytmhfnbbamoadgaa
