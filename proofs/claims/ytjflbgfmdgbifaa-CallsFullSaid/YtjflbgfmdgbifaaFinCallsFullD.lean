/-
  CallsFull: what is to be seen of each case.
-/
import Derived.Test.YtjflbgfmdgbifaaAbs20
import Derived.Test.YtjflbgfmdgbifaaAbs21
namespace Go.Proofs.Ytjflbgfmdgbifaa
open Go.Abs

noncomputable def callsFull_ok (i0 : Nat) : Bool :=
  match callF vbeq Try.prog XWithin 400 5 [.chan (some (21 * 4096 + i0))] H0 with
  | some (.bool true, _) => true
  | _ => false
end Go.Proofs.Ytjflbgfmdgbifaa
