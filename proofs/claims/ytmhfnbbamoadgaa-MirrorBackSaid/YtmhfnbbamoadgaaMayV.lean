/-
  What the text asks for.
-/
import Derived.Test.YtmhfnbbamoadgaaRec
namespace Go.Proofs.Ytmhfnbbamoadgaa
open Go.Abs Go
/-- May a pair be? one of which is asked that it may. -/
def mayD (S : Sy) (args : List Value) (h : Hp) (K : Value → Hp → Prop) : Prop :=
  match args with
  | [.agg cs] => match cs.toList with
    | [a, b] => match den a, den b with
      | .string k, .string v => ((!(S.seq k ⟨#[]⟩)) = true ∧ S.nle (S.slen k) 16 ∧ S.nle (S.slen v) 24) ∧ K (.bool true) h
      | _, _ => False
    | _ => False
  | _ => False
noncomputable def mayTell : Con := noCon.tellG [(5, .neq, false, true), (10, .leq, true, true), (16, .leq, true, true)]
theorem may_vc (k v : ByteArray) : lawV std Try.prog mayTell (inCallF 60) 60 (fun _ => none) Try.f55 (bodyS Try.prog 55) [.agg #[mk (.string k), mk (.string v)]] H0 (fun v _ => den v = .bool true) =
  (((!(std.seq k (ByteArray.mk (Array.mk [])))) = true) ∧ (((decide (((std.slen k) : Int) ≤ (16 : Int))) = true) ∧ (((decide (((std.slen v) : Int) ≤ (24 : Int))) = true) ∧ ((Go.Value.bool true) = (Go.Value.bool true))))) := by kernel_rfl
end Go.Proofs.Ytmhfnbbamoadgaa
