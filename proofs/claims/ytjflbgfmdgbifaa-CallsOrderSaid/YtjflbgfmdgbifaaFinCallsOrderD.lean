/-
  CallsOrder: what is to be seen of each case.
-/
import Derived.Test.YtjflbgfmdgbifaaAbs20
import Derived.Test.YtjflbgfmdgbifaaAbs21
namespace Go.Proofs.Ytjflbgfmdgbifaa
open Go.Abs

noncomputable def callsOrder_ok (i0 i1 : Nat) : Bool :=
  match callF vbeq Try.prog XWithin 400 4 [.chan (some (13 * 4096 + i0)), .chan (some (9 * 4096 + i1))] H0 with
  | some (.bool true, _) => true
  | _ => false
end Go.Proofs.Ytjflbgfmdgbifaa
