/-
  No cell of these rows narrows 'for every input' (looked for: loops, veiled, ifaces, maps, wideKeys, modest, calm, conditions, laid).
  DERIVED. THE GIVEN ROWS OF THIS SEAT. 6 by the template 'for every input the law returns true; each argument reads behind the call as it read before'; 0 by the template 'total and deterministic' (their statements: YtecdmdglkkeidaaTotals.lean).
  GIVEN WITH THE SEED: the statements are not yours to turn. If you find one false, say at which input.
  Laid BY PROGRAM, IN A SANDBOX (cutbox-rows.mjs): the forced cells as the released guide's own fill.sh prints them over the translation 8c9f9fb07ae686bc… (all of the seat's roots in one cut). By AI agents, Wed Nov 11 2026. No macro, syntax, notation, axiom, sorry.
-/
import Derived.Test.YtecdmdglkkeidaaChecked
import GoSem.Claim
import GoSem.ClaimJoined
import GoSem.ClaimMapViews
import Derived.JoinedTies
import Derived.KernelRfl
namespace Go.Proofs.Ytecdmdglkkeidaa
/- THE CELL 'sum', in the pinned program and in every row, IS THE sha256 OF THE DUMP (.gsa) THAT YtecdmdglkkeidaaProg.lean LOADS. Nothing in Lean hashes anything: it is a label: what it is worth is what the hold of that sum in a sandbox is worth. -/
noncomputable def Try.pinned : Pinned := { name := "ytecdmdglkkeidaa", sum := "8c9f9fb07ae686bc1bb820b8c4ec9aa3b6d478e97192793cb6c36030d033bee2", checked := Try.checked }
namespace Rows
def none {H : Type} : Left H := { results := [], args := [] }

/-- 'affiantlaw14.StakeRuns': WHATEVER THE INPUT: true; the input reads as it did. -/
def stakeRunsSpec : ChangeSpec := { name := "stakeRuns", fn := fun _ => fun
  | [] => { results := [.lit (.bool true)], args := [] }
  | _ => none }
def stakeRunsRow : OpenClaim := { program := "ytecdmdglkkeidaa", sum := "8c9f9fb07ae686bc1bb820b8c4ec9aa3b6d478e97192793cb6c36030d033bee2", func := "affiant/affiantlaw14.StakeRuns", spec := "stakeRuns", inPlace := ["internal/bytealg.abigen_runtime_cmpstring"], unfollowed := true, recurses := true, apart := false }
def StakeRunsSaid : Prop := stakeRunsRow.holds Try.pinned (OpenSpec.ofChange stakeRunsSpec)

/-- ITS FALSE NEIGHBOUR: 'it returns false'. Refute it at one input. -/
def stakeRunsWrong : ChangeSpec := { name := "stakeRuns", fn := fun _ => fun
  | [] => { results := [.lit (.bool false)], args := [] }
  | _ => none }
def StakeRunsWrongFalsely : Prop := stakeRunsRow.holds Try.pinned (OpenSpec.ofChange stakeRunsWrong)

/-- 'affiantlaw14.StakePlays': WHATEVER THE INPUT: true; the input reads as it did. -/
def stakePlaysSpec : ChangeSpec := { name := "stakePlays", fn := fun _ => fun
  | [d1, d2, d3, d4, d5, d6] => { results := [.lit (.bool true)], args := [d1, d2, d3, d4, d5, d6] }
  | _ => none }
def stakePlaysRow : OpenClaim := { program := "ytecdmdglkkeidaa", sum := "8c9f9fb07ae686bc1bb820b8c4ec9aa3b6d478e97192793cb6c36030d033bee2", func := "affiant/affiantlaw14.StakePlays", spec := "stakePlays", inPlace := ["internal/bytealg.abigen_runtime_cmpstring"], unfollowed := true, recurses := true, apart := false }
def StakePlaysSaid : Prop := stakePlaysRow.holds Try.pinned (OpenSpec.ofChange stakePlaysSpec)

/-- ITS FALSE NEIGHBOUR: 'it returns false'. Refute it at one input. -/
def stakePlaysWrong : ChangeSpec := { name := "stakePlays", fn := fun _ => fun
  | [d1, d2, d3, d4, d5, d6] => { results := [.lit (.bool false)], args := [d1, d2, d3, d4, d5, d6] }
  | _ => none }
def StakePlaysWrongFalsely : Prop := stakePlaysRow.holds Try.pinned (OpenSpec.ofChange stakePlaysWrong)

/-- 'affiantlaw14.StakeRecords': WHATEVER THE INPUT: true; the input reads as it did. -/
def stakeRecordsSpec : ChangeSpec := { name := "stakeRecords", fn := fun _ => fun
  | [d1, d2, d3, d4, d5, d6] => { results := [.lit (.bool true)], args := [d1, d2, d3, d4, d5, d6] }
  | _ => none }
def stakeRecordsRow : OpenClaim := { program := "ytecdmdglkkeidaa", sum := "8c9f9fb07ae686bc1bb820b8c4ec9aa3b6d478e97192793cb6c36030d033bee2", func := "affiant/affiantlaw14.StakeRecords", spec := "stakeRecords", inPlace := ["internal/bytealg.abigen_runtime_cmpstring"], unfollowed := true, recurses := true, apart := false }
def StakeRecordsSaid : Prop := stakeRecordsRow.holds Try.pinned (OpenSpec.ofChange stakeRecordsSpec)

/-- ITS FALSE NEIGHBOUR: 'it returns false'. Refute it at one input. -/
def stakeRecordsWrong : ChangeSpec := { name := "stakeRecords", fn := fun _ => fun
  | [d1, d2, d3, d4, d5, d6] => { results := [.lit (.bool false)], args := [d1, d2, d3, d4, d5, d6] }
  | _ => none }
def StakeRecordsWrongFalsely : Prop := stakeRecordsRow.holds Try.pinned (OpenSpec.ofChange stakeRecordsWrong)

/-- 'affiantlaw14.StakeSums': WHATEVER THE INPUT: true; the input reads as it did. -/
def stakeSumsSpec : ChangeSpec := { name := "stakeSums", fn := fun _ => fun
  | [d1, d2, d3] => { results := [.lit (.bool true)], args := [d1, d2, d3] }
  | _ => none }
def stakeSumsRow : OpenClaim := { program := "ytecdmdglkkeidaa", sum := "8c9f9fb07ae686bc1bb820b8c4ec9aa3b6d478e97192793cb6c36030d033bee2", func := "affiant/affiantlaw14.StakeSums", spec := "stakeSums", inPlace := ["internal/bytealg.abigen_runtime_cmpstring"], unfollowed := true, recurses := true, apart := false }
def StakeSumsSaid : Prop := stakeSumsRow.holds Try.pinned (OpenSpec.ofChange stakeSumsSpec)

/-- ITS FALSE NEIGHBOUR: 'it returns false'. Refute it at one input. -/
def stakeSumsWrong : ChangeSpec := { name := "stakeSums", fn := fun _ => fun
  | [d1, d2, d3] => { results := [.lit (.bool false)], args := [d1, d2, d3] }
  | _ => none }
def StakeSumsWrongFalsely : Prop := stakeSumsRow.holds Try.pinned (OpenSpec.ofChange stakeSumsWrong)

/-- 'affiantlaw14.StakeOthers': WHATEVER THE INPUT: true; the input reads as it did. -/
def stakeOthersSpec : ChangeSpec := { name := "stakeOthers", fn := fun _ => fun
  | [d1, d2, d3, d4] => { results := [.lit (.bool true)], args := [d1, d2, d3, d4] }
  | _ => none }
def stakeOthersRow : OpenClaim := { program := "ytecdmdglkkeidaa", sum := "8c9f9fb07ae686bc1bb820b8c4ec9aa3b6d478e97192793cb6c36030d033bee2", func := "affiant/affiantlaw14.StakeOthers", spec := "stakeOthers", inPlace := ["internal/bytealg.abigen_runtime_cmpstring"], unfollowed := true, recurses := true, apart := false }
def StakeOthersSaid : Prop := stakeOthersRow.holds Try.pinned (OpenSpec.ofChange stakeOthersSpec)

/-- ITS FALSE NEIGHBOUR: 'it returns false'. Refute it at one input. -/
def stakeOthersWrong : ChangeSpec := { name := "stakeOthers", fn := fun _ => fun
  | [d1, d2, d3, d4] => { results := [.lit (.bool false)], args := [d1, d2, d3, d4] }
  | _ => none }
def StakeOthersWrongFalsely : Prop := stakeOthersRow.holds Try.pinned (OpenSpec.ofChange stakeOthersWrong)

/-- 'affiantlaw14.StakeLimits': WHATEVER THE INPUT: true; the input reads as it did. -/
def stakeLimitsSpec : ChangeSpec := { name := "stakeLimits", fn := fun _ => fun
  | [d1, d2, d3] => { results := [.lit (.bool true)], args := [d1, d2, d3] }
  | _ => none }
def stakeLimitsRow : OpenClaim := { program := "ytecdmdglkkeidaa", sum := "8c9f9fb07ae686bc1bb820b8c4ec9aa3b6d478e97192793cb6c36030d033bee2", func := "affiant/affiantlaw14.StakeLimits", spec := "stakeLimits", inPlace := ["internal/bytealg.abigen_runtime_cmpstring"], unfollowed := true, recurses := true, apart := false }
def StakeLimitsSaid : Prop := stakeLimitsRow.holds Try.pinned (OpenSpec.ofChange stakeLimitsSpec)

/-- ITS FALSE NEIGHBOUR: 'it returns false'. Refute it at one input. -/
def stakeLimitsWrong : ChangeSpec := { name := "stakeLimits", fn := fun _ => fun
  | [d1, d2, d3] => { results := [.lit (.bool false)], args := [d1, d2, d3] }
  | _ => none }
def StakeLimitsWrongFalsely : Prop := stakeLimitsRow.holds Try.pinned (OpenSpec.ofChange stakeLimitsWrong)

/- THE SECOND FORM. 'bulk': how many values and letters a reading holds, each counted each time it is reached (what is shared counts as often as it is met; a slice's spare places count too). A statement '..UptoSaid' is the law's where the arguments, and the package variables that the reading takes, are together of bulk at most 1048576: NARROWER than '..Said'. Prove '..Said' where nothing that the law and all that it calls make is longer than what came in: it says more and counts as full. Else prove '..UptoSaid'. A law counts once. -/
mutual
def uptoBulk {H : Type} : DataW H → Nat
  | .lit (.string bytes) => bytes.length + 1
  | .lit _ => 1
  | .nil => 1
  | .ptr d => uptoBulk d + 1
  | .slice elems spare => uptoBulkAll elems + uptoBulkAll spare + 1
  | .agg parts => uptoBulkAll parts + 1
  | .iface _ d => uptoBulk d + 1
  | .map entries => uptoBulkEntries entries + 1
  | .held _ => 1
def uptoBulkAll {H : Type} : List (DataW H) → Nat
  | [] => 0
  | d :: r => uptoBulk d + uptoBulkAll r
def uptoBulkEntries {H : Type} : List (Lit × DataW H) → Nat
  | [] => 0
  | x :: r => uptoBulkEntry x + uptoBulkEntries r
def uptoBulkEntry {H : Type} : Lit × DataW H → Nat
  | (.string bytes, d) => bytes.length + uptoBulk d + 1
  | (_, d) => uptoBulk d + 1
 end
def uptoSmall : (H : Type) → List (DataW H) → Bool := fun _ ds => decide (uptoBulkAll ds ≤ 1048576)
def OpenSpec.upto (s : _root_.Go.ChangeSpec) : _root_.Go.OpenSpec := { _root_.Go.OpenSpec.ofChange s with cond := some uptoSmall }

/-- 'affiantlaw14.StakeRuns', WHERE WHAT IT READS IS OF BULK AT MOST 1048576: true; the input reads as it did. -/
def stakeRunsUptoRow : OpenClaim := { program := "ytecdmdglkkeidaa", sum := "8c9f9fb07ae686bc1bb820b8c4ec9aa3b6d478e97192793cb6c36030d033bee2", func := "affiant/affiantlaw14.StakeRuns", spec := "stakeRuns", inPlace := ["internal/bytealg.abigen_runtime_cmpstring"], unfollowed := true, recurses := true, apart := false, narrowed := true }
def StakeRunsUptoSaid : Prop := stakeRunsUptoRow.holds Try.pinned (OpenSpec.upto stakeRunsSpec)

/-- 'affiantlaw14.StakePlays', WHERE WHAT IT READS IS OF BULK AT MOST 1048576: true; the input reads as it did. -/
def stakePlaysUptoRow : OpenClaim := { program := "ytecdmdglkkeidaa", sum := "8c9f9fb07ae686bc1bb820b8c4ec9aa3b6d478e97192793cb6c36030d033bee2", func := "affiant/affiantlaw14.StakePlays", spec := "stakePlays", inPlace := ["internal/bytealg.abigen_runtime_cmpstring"], unfollowed := true, recurses := true, apart := false, narrowed := true }
def StakePlaysUptoSaid : Prop := stakePlaysUptoRow.holds Try.pinned (OpenSpec.upto stakePlaysSpec)

/-- 'affiantlaw14.StakeRecords', WHERE WHAT IT READS IS OF BULK AT MOST 1048576: true; the input reads as it did. -/
def stakeRecordsUptoRow : OpenClaim := { program := "ytecdmdglkkeidaa", sum := "8c9f9fb07ae686bc1bb820b8c4ec9aa3b6d478e97192793cb6c36030d033bee2", func := "affiant/affiantlaw14.StakeRecords", spec := "stakeRecords", inPlace := ["internal/bytealg.abigen_runtime_cmpstring"], unfollowed := true, recurses := true, apart := false, narrowed := true }
def StakeRecordsUptoSaid : Prop := stakeRecordsUptoRow.holds Try.pinned (OpenSpec.upto stakeRecordsSpec)

/-- 'affiantlaw14.StakeSums', WHERE WHAT IT READS IS OF BULK AT MOST 1048576: true; the input reads as it did. -/
def stakeSumsUptoRow : OpenClaim := { program := "ytecdmdglkkeidaa", sum := "8c9f9fb07ae686bc1bb820b8c4ec9aa3b6d478e97192793cb6c36030d033bee2", func := "affiant/affiantlaw14.StakeSums", spec := "stakeSums", inPlace := ["internal/bytealg.abigen_runtime_cmpstring"], unfollowed := true, recurses := true, apart := false, narrowed := true }
def StakeSumsUptoSaid : Prop := stakeSumsUptoRow.holds Try.pinned (OpenSpec.upto stakeSumsSpec)

/-- 'affiantlaw14.StakeOthers', WHERE WHAT IT READS IS OF BULK AT MOST 1048576: true; the input reads as it did. -/
def stakeOthersUptoRow : OpenClaim := { program := "ytecdmdglkkeidaa", sum := "8c9f9fb07ae686bc1bb820b8c4ec9aa3b6d478e97192793cb6c36030d033bee2", func := "affiant/affiantlaw14.StakeOthers", spec := "stakeOthers", inPlace := ["internal/bytealg.abigen_runtime_cmpstring"], unfollowed := true, recurses := true, apart := false, narrowed := true }
def StakeOthersUptoSaid : Prop := stakeOthersUptoRow.holds Try.pinned (OpenSpec.upto stakeOthersSpec)

/-- 'affiantlaw14.StakeLimits', WHERE WHAT IT READS IS OF BULK AT MOST 1048576: true; the input reads as it did. -/
def stakeLimitsUptoRow : OpenClaim := { program := "ytecdmdglkkeidaa", sum := "8c9f9fb07ae686bc1bb820b8c4ec9aa3b6d478e97192793cb6c36030d033bee2", func := "affiant/affiantlaw14.StakeLimits", spec := "stakeLimits", inPlace := ["internal/bytealg.abigen_runtime_cmpstring"], unfollowed := true, recurses := true, apart := false, narrowed := true }
def StakeLimitsUptoSaid : Prop := stakeLimitsUptoRow.holds Try.pinned (OpenSpec.upto stakeLimitsSpec)

end Rows
end Go.Proofs.Ytecdmdglkkeidaa
