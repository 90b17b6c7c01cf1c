/-
  What the text asks for.
-/
import Derived.Test.YtddejgkfgnokgaaAbs44
namespace Go.Proofs.Ytddejgkfgnokgaa
open Go.Abs Go
noncomputable def bodyR (P : Program) (f : Nat) : Code := ((P.funcs[f]?).bind (·.body)).getD .skip
/-- What backs the shares: two cells' sum. -/
def poolD (S : Sy) (args : List Value) (h : Hp) (K : Value → Hp → Prop) : Prop :=
  match args with
  | [.pointer (some ⟨b, o, none⟩)] => match h.get b with
    | some (.cells vs _) => match vs[o]?, vs[o + 1]? with
      | some a, some c => match den a, den c with
        | .int .i64 x, .int .i64 y => if isMark a || isMark c then inI S (S.add x y) ∧ K (mk (.int .i64 (S.add x y))) h
          else if -9223372036854775808 ≤ x + y ∧ x + y ≤ 9223372036854775807 then K (.int .i64 (x + y)) h else False
        | _, _ => False
      | _, _ => False
    | _ => False
  | _ => False
theorem pool_vc (x y : Int) : lawV std Try.prog noCon (inCallF 60) 90 (fun _ => none) Try.f26 (bodyR Try.prog 26) [.pointer (some ⟨0, 0, none⟩)] (inH [some (.cells [mk (.int .i64 x), mk (.int .i64 y)] true)]) (fun v _ => den v = .int .i64 (std.add x y)) =
  ((((-9223372036854775808 : Int) ≤ (x + y)) ∧ ((x + y) ≤ (9223372036854775807 : Int))) ∧ ((Go.Value.int Go.IntKind.i64 (x + y)) = (Go.Value.int Go.IntKind.i64 (x + y)))) := by kernel_rfl
end Go.Proofs.Ytddejgkfgnokgaa
