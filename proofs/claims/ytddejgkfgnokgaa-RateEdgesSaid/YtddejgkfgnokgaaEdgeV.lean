/-
  What the text asks for.
-/
import Derived.Test.YtddejgkfgnokgaaPool
import Derived.Test.YtddejgkfgnokgaaAbs46
namespace Go.Proofs.Ytddejgkfgnokgaa
open Go.Abs Go
noncomputable def edgeTell (r : Nat) : List (Nat × BinOp × Bool) := match r with
  | 0 => [(14, .geq, false)]
  | 1 => [(14, .geq, true), (18, .leq, false)]
  | 4 => [(14, .geq, true), (18, .leq, true), (28, .gtr, true)]
  | 5 => [(6, .lss, true)]
  | 6 => [(6, .lss, false), (14, .gtr, true)]
  | 7 => [(14, .geq, true), (18, .leq, true), (45, .eql, false), (53, .gtr, true)]
  | _ => []
noncomputable def edgeCons (S : Sy) (r : Nat) : Con := ((conL [(16, withinT S (r : Int)), (3, closedC (.bool true)), (27, sortedTC)]).tell (edgeTell r)).draw [(26, poolD S)]
theorem edge0_vc (a b : Int) : lawV std Try.prog (edgeCons std 0) (inCallF 60) 90 (fun _ => none) Try.f4 (bodyR Try.prog 4) [mk (.int .i64 a), mk (.int .i64 b)] H0 (fun v _ => v = .bool true) =
  (((0 : Int) = ((0 : Int) + (b % (8 : Int)))) ∧ ((((-9223372036854775808 : Int) ≤ (-((0 : Int) + (a % (1001 : Int))))) ∧ ((-((0 : Int) + (a % (1001 : Int)))) ≤ (9223372036854775807 : Int))) ∧ (((decide ((1 : Int) ≤ (-((0 : Int) + (a % (1001 : Int)))))) = false) ∧ ((Go.Value.bool true) = (Go.Value.bool true))))) := by kernel_rfl
theorem edge1_vc (a b : Int) : lawV std Try.prog (edgeCons std 1) (inCallF 60) 90 (fun _ => none) Try.f4 (bodyR Try.prog 4) [mk (.int .i64 a), mk (.int .i64 b)] H0 (fun v _ => v = .bool true) =
  (((1 : Int) = ((0 : Int) + (b % (8 : Int)))) ∧ ((((-9223372036854775808 : Int) ≤ ((1073741825 : Int) + ((0 : Int) + (a % (1001 : Int))))) ∧ (((1073741825 : Int) + ((0 : Int) + (a % (1001 : Int)))) ≤ (9223372036854775807 : Int))) ∧ (((decide ((1 : Int) ≤ ((1073741825 : Int) + ((0 : Int) + (a % (1001 : Int)))))) = true) ∧ (((decide (((1073741825 : Int) + ((0 : Int) + (a % (1001 : Int)))) ≤ (1073741824 : Int))) = false) ∧ ((Go.Value.bool true) = (Go.Value.bool true)))))) := by kernel_rfl
theorem edge2_vc (a b : Int) : lawV std Try.prog (edgeCons std 2) (inCallF 60) 90 (fun _ => none) Try.f4 (bodyR Try.prog 4) [mk (.int .i64 a), mk (.int .i64 b)] H0 (fun v _ => v = .bool true) =
  (((2 : Int) = ((0 : Int) + (b % (8 : Int)))) ∧ ((Go.Value.bool true) = (Go.Value.bool true))) := by kernel_rfl
theorem edge3_vc (a b : Int) : lawV std Try.prog (edgeCons std 3) (inCallF 60) 90 (fun _ => none) Try.f4 (bodyR Try.prog 4) [mk (.int .i64 a), mk (.int .i64 b)] H0 (fun v _ => v = .bool true) =
  (((3 : Int) = ((0 : Int) + (b % (8 : Int)))) ∧ ((Go.Value.bool true) = (Go.Value.bool true))) := by kernel_rfl
theorem edge4_vc (a b : Int) : lawV std Try.prog (edgeCons std 4) (inCallF 60) 90 (fun _ => none) Try.f4 (bodyR Try.prog 4) [mk (.int .i64 a), mk (.int .i64 b)] H0 (fun v _ => v = .bool true) =
  (((4 : Int) = ((0 : Int) + (b % (8 : Int)))) ∧ ((((-9223372036854775808 : Int) ≤ ((101 : Int) + ((0 : Int) + (a % (1001 : Int))))) ∧ (((101 : Int) + ((0 : Int) + (a % (1001 : Int)))) ≤ (9223372036854775807 : Int))) ∧ (((decide ((1 : Int) ≤ ((101 : Int) + ((0 : Int) + (a % (1001 : Int)))))) = true) ∧ (((decide (((101 : Int) + ((0 : Int) + (a % (1001 : Int)))) ≤ (1073741824 : Int))) = true) ∧ (((decide ((100 : Int) < ((101 : Int) + ((0 : Int) + (a % (1001 : Int)))))) = true) ∧ ((Go.Value.bool true) = (Go.Value.bool true))))))) := by kernel_rfl
theorem edge5_vc (a b : Int) : lawV std Try.prog (edgeCons std 5) (inCallF 60) 90 (fun _ => none) Try.f4 (bodyR Try.prog 4) [mk (.int .i64 a), mk (.int .i64 b)] H0 (fun v _ => v = .bool true) =
  (((5 : Int) = ((0 : Int) + (b % (8 : Int)))) ∧ ((((-9223372036854775808 : Int) ≤ ((-1 : Int) - ((0 : Int) + (a % (1001 : Int))))) ∧ (((-1 : Int) - ((0 : Int) + (a % (1001 : Int)))) ≤ (9223372036854775807 : Int))) ∧ (((decide (((-1 : Int) - ((0 : Int) + (a % (1001 : Int)))) < (0 : Int))) = true) ∧ ((Go.Value.bool true) = (Go.Value.bool true))))) := by kernel_rfl
theorem edge6_vc (a b : Int) : lawV std Try.prog (edgeCons std 6) (inCallF 60) 90 (fun _ => none) Try.f4 (bodyR Try.prog 4) [mk (.int .i64 a), mk (.int .i64 b)] H0 (fun v _ => v = .bool true) =
  (((6 : Int) = ((0 : Int) + (b % (8 : Int)))) ∧ ((((-9223372036854775808 : Int) ≤ ((1073741725 : Int) + ((0 : Int) + (a % (1001 : Int))))) ∧ (((1073741725 : Int) + ((0 : Int) + (a % (1001 : Int)))) ≤ (9223372036854775807 : Int))) ∧ (((decide (((1073741725 : Int) + ((0 : Int) + (a % (1001 : Int)))) < (0 : Int))) = false) ∧ (((decide ((1073741724 : Int) < ((1073741725 : Int) + ((0 : Int) + (a % (1001 : Int)))))) = true) ∧ ((Go.Value.bool true) = (Go.Value.bool true)))))) := by kernel_rfl
theorem edge7_vc (a b : Int) : lawV std Try.prog (edgeCons std 7) (inCallF 60) 90 (fun _ => none) Try.f4 (bodyR Try.prog 4) [mk (.int .i64 a), mk (.int .i64 b)] H0 (fun v _ => v = .bool true) =
  (((7 : Int) = ((0 : Int) + (b % (8 : Int)))) ∧ (((0 : Int) < (100 : Int)) ∧ ((((-9223372036854775808 : Int) ≤ ((1073741824 : Int) - (std.rem ((0 : Int) + (a % (1001 : Int))) (100 : Int)))) ∧ (((1073741824 : Int) - (std.rem ((0 : Int) + (a % (1001 : Int))) (100 : Int))) ≤ (9223372036854775807 : Int))) ∧ (((decide ((1 : Int) ≤ ((1073741824 : Int) - (std.rem ((0 : Int) + (a % (1001 : Int))) (100 : Int))))) = true) ∧ (((decide (((1073741824 : Int) - (std.rem ((0 : Int) + (a % (1001 : Int))) (100 : Int))) ≤ (1073741824 : Int))) = true) ∧ ((((-9223372036854775808 : Int) ≤ (((1073741824 : Int) - (std.rem ((0 : Int) + (a % (1001 : Int))) (100 : Int))) * (100 : Int))) ∧ ((((1073741824 : Int) - (std.rem ((0 : Int) + (a % (1001 : Int))) (100 : Int))) * (100 : Int)) ≤ (9223372036854775807 : Int))) ∧ ((((0 : Int) < (100 : Int)) ∧ (((-9223372036854775808 : Int) ≤ (((1073741824 : Int) - (std.rem ((0 : Int) + (a % (1001 : Int))) (100 : Int))) * (100 : Int))) ∧ ((((1073741824 : Int) - (std.rem ((0 : Int) + (a % (1001 : Int))) (100 : Int))) * (100 : Int)) ≤ (9223372036854775807 : Int)))) ∧ ((((std.quo (((1073741824 : Int) - (std.rem ((0 : Int) + (a % (1001 : Int))) (100 : Int))) * (100 : Int)) (100 : Int)) == (0 : Int)) = false) ∧ (((decide ((1073741724 : Int) < (std.quo (((1073741824 : Int) - (std.rem ((0 : Int) + (a % (1001 : Int))) (100 : Int))) * (100 : Int)) (100 : Int)))) = true) ∧ ((Go.Value.bool true) = (Go.Value.bool true))))))))))) := by kernel_rfl
end Go.Proofs.Ytddejgkfgnokgaa
