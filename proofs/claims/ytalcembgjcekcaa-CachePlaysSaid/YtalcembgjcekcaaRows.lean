/-
  No cell of these rows narrows 'for every input' (looked for: loops, veiled, ifaces, maps, wideKeys, modest, calm, conditions, laid).
  DERIVED. THE GIVEN ROWS OF THIS SEAT. 5 by the template 'for every input the law returns true; each argument reads behind the call as it read before'; 0 by the template 'total and deterministic' (their statements: YtalcembgjcekcaaTotals.lean).
  GIVEN WITH THE SEED: the statements are not yours to turn. If you find one false, say at which input.
  Laid BY PROGRAM, IN A SANDBOX (cutbox-rows.mjs): the forced cells as the released guide's own fill.sh prints them over the translation 2798d06a102df090… (all of the seat's roots in one cut). By AI agents, Wed Nov 11 2026. No macro, syntax, notation, axiom, sorry.
-/
import Derived.Test.YtalcembgjcekcaaChecked
import GoSem.Claim
import GoSem.ClaimJoined
import GoSem.ClaimMapViews
import Derived.JoinedTies
import Derived.KernelRfl
namespace Go.Proofs.Ytalcembgjcekcaa
/- THE CELL 'sum', in the pinned program and in every row, IS THE sha256 OF THE DUMP (.gsa) THAT YtalcembgjcekcaaProg.lean LOADS. Nothing in Lean hashes anything: it is a label: what it is worth is what the hold of that sum in a sandbox is worth. -/
noncomputable def Try.pinned : Pinned := { name := "ytalcembgjcekcaa", sum := "2798d06a102df0900fee3e9d61ab106a1021986ca1e52cbe6cc23e7befd51bba", checked := Try.checked }
namespace Rows
def none {H : Type} : Left H := { results := [], args := [] }

/-- 'affiantlaw18.CacheRuns': WHATEVER THE INPUT: true; the input reads as it did. -/
def cacheRunsSpec : ChangeSpec := { name := "cacheRuns", fn := fun _ => fun
  | [] => { results := [.lit (.bool true)], args := [] }
  | _ => none }
def cacheRunsRow : OpenClaim := { program := "ytalcembgjcekcaa", sum := "2798d06a102df0900fee3e9d61ab106a1021986ca1e52cbe6cc23e7befd51bba", func := "affiant/affiantlaw18.CacheRuns", spec := "cacheRuns", apart := false }
def CacheRunsSaid : Prop := cacheRunsRow.holds Try.pinned (OpenSpec.ofChange cacheRunsSpec)

/-- ITS FALSE NEIGHBOUR: 'it returns false'. Refute it at one input. -/
def cacheRunsWrong : ChangeSpec := { name := "cacheRuns", fn := fun _ => fun
  | [] => { results := [.lit (.bool false)], args := [] }
  | _ => none }
def CacheRunsWrongFalsely : Prop := cacheRunsRow.holds Try.pinned (OpenSpec.ofChange cacheRunsWrong)

/-- 'affiantlaw18.CacheOld': WHATEVER THE INPUT: true; the input reads as it did. -/
def cacheOldSpec : ChangeSpec := { name := "cacheOld", fn := fun _ => fun
  | [d1, d2] => { results := [.lit (.bool true)], args := [d1, d2] }
  | _ => none }
def cacheOldRow : OpenClaim := { program := "ytalcembgjcekcaa", sum := "2798d06a102df0900fee3e9d61ab106a1021986ca1e52cbe6cc23e7befd51bba", func := "affiant/affiantlaw18.CacheOld", spec := "cacheOld", apart := false }
def CacheOldSaid : Prop := cacheOldRow.holds Try.pinned (OpenSpec.ofChange cacheOldSpec)

/-- ITS FALSE NEIGHBOUR: 'it returns false'. Refute it at one input. -/
def cacheOldWrong : ChangeSpec := { name := "cacheOld", fn := fun _ => fun
  | [d1, d2] => { results := [.lit (.bool false)], args := [d1, d2] }
  | _ => none }
def CacheOldWrongFalsely : Prop := cacheOldRow.holds Try.pinned (OpenSpec.ofChange cacheOldWrong)

/-- 'affiantlaw18.CacheStale': WHATEVER THE INPUT: true; the input reads as it did. -/
def cacheStaleSpec : ChangeSpec := { name := "cacheStale", fn := fun _ => fun
  | [d1, d2, d3] => { results := [.lit (.bool true)], args := [d1, d2, d3] }
  | _ => none }
def cacheStaleRow : OpenClaim := { program := "ytalcembgjcekcaa", sum := "2798d06a102df0900fee3e9d61ab106a1021986ca1e52cbe6cc23e7befd51bba", func := "affiant/affiantlaw18.CacheStale", spec := "cacheStale", apart := false }
def CacheStaleSaid : Prop := cacheStaleRow.holds Try.pinned (OpenSpec.ofChange cacheStaleSpec)

/-- ITS FALSE NEIGHBOUR: 'it returns false'. Refute it at one input. -/
def cacheStaleWrong : ChangeSpec := { name := "cacheStale", fn := fun _ => fun
  | [d1, d2, d3] => { results := [.lit (.bool false)], args := [d1, d2, d3] }
  | _ => none }
def CacheStaleWrongFalsely : Prop := cacheStaleRow.holds Try.pinned (OpenSpec.ofChange cacheStaleWrong)

/-- 'affiantlaw18.CacheEach': WHATEVER THE INPUT: true; the input reads as it did. -/
def cacheEachSpec : ChangeSpec := { name := "cacheEach", fn := fun _ => fun
  | [d1, d2, d3] => { results := [.lit (.bool true)], args := [d1, d2, d3] }
  | _ => none }
def cacheEachRow : OpenClaim := { program := "ytalcembgjcekcaa", sum := "2798d06a102df0900fee3e9d61ab106a1021986ca1e52cbe6cc23e7befd51bba", func := "affiant/affiantlaw18.CacheEach", spec := "cacheEach", apart := false }
def CacheEachSaid : Prop := cacheEachRow.holds Try.pinned (OpenSpec.ofChange cacheEachSpec)

/-- ITS FALSE NEIGHBOUR: 'it returns false'. Refute it at one input. -/
def cacheEachWrong : ChangeSpec := { name := "cacheEach", fn := fun _ => fun
  | [d1, d2, d3] => { results := [.lit (.bool false)], args := [d1, d2, d3] }
  | _ => none }
def CacheEachWrongFalsely : Prop := cacheEachRow.holds Try.pinned (OpenSpec.ofChange cacheEachWrong)

/-- 'affiantlaw18.CachePlays': WHATEVER THE INPUT: true; the input reads as it did. -/
def cachePlaysSpec : ChangeSpec := { name := "cachePlays", fn := fun _ => fun
  | [d1, d2] => { results := [.lit (.bool true)], args := [d1, d2] }
  | _ => none }
def cachePlaysRow : OpenClaim := { program := "ytalcembgjcekcaa", sum := "2798d06a102df0900fee3e9d61ab106a1021986ca1e52cbe6cc23e7befd51bba", func := "affiant/affiantlaw18.CachePlays", spec := "cachePlays", inPlace := ["maps.clone"], apart := false }
def CachePlaysSaid : Prop := cachePlaysRow.holds Try.pinned (OpenSpec.ofChange cachePlaysSpec)

/-- ITS FALSE NEIGHBOUR: 'it returns false'. Refute it at one input. -/
def cachePlaysWrong : ChangeSpec := { name := "cachePlays", fn := fun _ => fun
  | [d1, d2] => { results := [.lit (.bool false)], args := [d1, d2] }
  | _ => none }
def CachePlaysWrongFalsely : Prop := cachePlaysRow.holds Try.pinned (OpenSpec.ofChange cachePlaysWrong)

/- THE SECOND FORM. 'bulk': how many values and letters a reading holds, each counted each time it is reached (what is shared counts as often as it is met; a slice's spare places count too). A statement '..UptoSaid' is the law's where the arguments, and the package variables that the reading takes, are together of bulk at most 1048576: NARROWER than '..Said'. Prove '..Said' where nothing that the law and all that it calls make is longer than what came in: it says more and counts as full. Else prove '..UptoSaid'. A law counts once. -/
mutual
def uptoBulk {H : Type} : DataW H → Nat
  | .lit (.string bytes) => bytes.length + 1
  | .lit _ => 1
  | .nil => 1
  | .ptr d => uptoBulk d + 1
  | .slice elems spare => uptoBulkAll elems + uptoBulkAll spare + 1
  | .agg parts => uptoBulkAll parts + 1
  | .iface _ d => uptoBulk d + 1
  | .map entries => uptoBulkEntries entries + 1
  | .held _ => 1
def uptoBulkAll {H : Type} : List (DataW H) → Nat
  | [] => 0
  | d :: r => uptoBulk d + uptoBulkAll r
def uptoBulkEntries {H : Type} : List (Lit × DataW H) → Nat
  | [] => 0
  | x :: r => uptoBulkEntry x + uptoBulkEntries r
def uptoBulkEntry {H : Type} : Lit × DataW H → Nat
  | (.string bytes, d) => bytes.length + uptoBulk d + 1
  | (_, d) => uptoBulk d + 1
 end
def uptoSmall : (H : Type) → List (DataW H) → Bool := fun _ ds => decide (uptoBulkAll ds ≤ 1048576)
def OpenSpec.upto (s : _root_.Go.ChangeSpec) : _root_.Go.OpenSpec := { _root_.Go.OpenSpec.ofChange s with cond := some uptoSmall }

/-- 'affiantlaw18.CacheRuns', WHERE WHAT IT READS IS OF BULK AT MOST 1048576: true; the input reads as it did. -/
def cacheRunsUptoRow : OpenClaim := { program := "ytalcembgjcekcaa", sum := "2798d06a102df0900fee3e9d61ab106a1021986ca1e52cbe6cc23e7befd51bba", func := "affiant/affiantlaw18.CacheRuns", spec := "cacheRuns", apart := false, narrowed := true }
def CacheRunsUptoSaid : Prop := cacheRunsUptoRow.holds Try.pinned (OpenSpec.upto cacheRunsSpec)

/-- 'affiantlaw18.CacheOld', WHERE WHAT IT READS IS OF BULK AT MOST 1048576: true; the input reads as it did. -/
def cacheOldUptoRow : OpenClaim := { program := "ytalcembgjcekcaa", sum := "2798d06a102df0900fee3e9d61ab106a1021986ca1e52cbe6cc23e7befd51bba", func := "affiant/affiantlaw18.CacheOld", spec := "cacheOld", apart := false, narrowed := true }
def CacheOldUptoSaid : Prop := cacheOldUptoRow.holds Try.pinned (OpenSpec.upto cacheOldSpec)

/-- 'affiantlaw18.CacheStale', WHERE WHAT IT READS IS OF BULK AT MOST 1048576: true; the input reads as it did. -/
def cacheStaleUptoRow : OpenClaim := { program := "ytalcembgjcekcaa", sum := "2798d06a102df0900fee3e9d61ab106a1021986ca1e52cbe6cc23e7befd51bba", func := "affiant/affiantlaw18.CacheStale", spec := "cacheStale", apart := false, narrowed := true }
def CacheStaleUptoSaid : Prop := cacheStaleUptoRow.holds Try.pinned (OpenSpec.upto cacheStaleSpec)

/-- 'affiantlaw18.CacheEach', WHERE WHAT IT READS IS OF BULK AT MOST 1048576: true; the input reads as it did. -/
def cacheEachUptoRow : OpenClaim := { program := "ytalcembgjcekcaa", sum := "2798d06a102df0900fee3e9d61ab106a1021986ca1e52cbe6cc23e7befd51bba", func := "affiant/affiantlaw18.CacheEach", spec := "cacheEach", apart := false, narrowed := true }
def CacheEachUptoSaid : Prop := cacheEachUptoRow.holds Try.pinned (OpenSpec.upto cacheEachSpec)

/-- 'affiantlaw18.CachePlays', WHERE WHAT IT READS IS OF BULK AT MOST 1048576: true; the input reads as it did. -/
def cachePlaysUptoRow : OpenClaim := { program := "ytalcembgjcekcaa", sum := "2798d06a102df0900fee3e9d61ab106a1021986ca1e52cbe6cc23e7befd51bba", func := "affiant/affiantlaw18.CachePlays", spec := "cachePlays", inPlace := ["maps.clone"], apart := false, narrowed := true }
def CachePlaysUptoSaid : Prop := cachePlaysUptoRow.holds Try.pinned (OpenSpec.upto cachePlaysSpec)

end Rows
end Go.Proofs.Ytalcembgjcekcaa
