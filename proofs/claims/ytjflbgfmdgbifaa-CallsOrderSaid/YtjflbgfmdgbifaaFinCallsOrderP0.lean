/-
  CallsOrder: cases, each run by the abstract evaluator in the kernel.
-/
import Derived.Test.YtjflbgfmdgbifaaFinCallsOrderD
namespace Go.Proofs.Ytjflbgfmdgbifaa
open Go.Abs
theorem callsOrder_run_0_0 : callsOrder_ok 0 0 = true := by kernel_rfl
theorem callsOrder_run_0_1 : callsOrder_ok 0 1 = true := by kernel_rfl
theorem callsOrder_run_0_2 : callsOrder_ok 0 2 = true := by kernel_rfl
theorem callsOrder_run_0_3 : callsOrder_ok 0 3 = true := by kernel_rfl
theorem callsOrder_run_0_4 : callsOrder_ok 0 4 = true := by kernel_rfl
theorem callsOrder_run_0_5 : callsOrder_ok 0 5 = true := by kernel_rfl
theorem callsOrder_run_0_6 : callsOrder_ok 0 6 = true := by kernel_rfl
theorem callsOrder_run_0_7 : callsOrder_ok 0 7 = true := by kernel_rfl
theorem callsOrder_run_0_8 : callsOrder_ok 0 8 = true := by kernel_rfl
theorem callsOrder_run_0 : ∀ i1 : Nat, i1 < 9 → callsOrder_ok 0 i1 = true
  | 0, _ => callsOrder_run_0_0
  | 1, _ => callsOrder_run_0_1
  | 2, _ => callsOrder_run_0_2
  | 3, _ => callsOrder_run_0_3
  | 4, _ => callsOrder_run_0_4
  | 5, _ => callsOrder_run_0_5
  | 6, _ => callsOrder_run_0_6
  | 7, _ => callsOrder_run_0_7
  | 8, _ => callsOrder_run_0_8
  | n + 9, h => absurd h (by omega)
theorem callsOrder_run_1_0 : callsOrder_ok 1 0 = true := by kernel_rfl
theorem callsOrder_run_1_1 : callsOrder_ok 1 1 = true := by kernel_rfl
theorem callsOrder_run_1_2 : callsOrder_ok 1 2 = true := by kernel_rfl
theorem callsOrder_run_1_3 : callsOrder_ok 1 3 = true := by kernel_rfl
theorem callsOrder_run_1_4 : callsOrder_ok 1 4 = true := by kernel_rfl
theorem callsOrder_run_1_5 : callsOrder_ok 1 5 = true := by kernel_rfl
theorem callsOrder_run_1_6 : callsOrder_ok 1 6 = true := by kernel_rfl
theorem callsOrder_run_1_7 : callsOrder_ok 1 7 = true := by kernel_rfl
theorem callsOrder_run_1_8 : callsOrder_ok 1 8 = true := by kernel_rfl
theorem callsOrder_run_1 : ∀ i1 : Nat, i1 < 9 → callsOrder_ok 1 i1 = true
  | 0, _ => callsOrder_run_1_0
  | 1, _ => callsOrder_run_1_1
  | 2, _ => callsOrder_run_1_2
  | 3, _ => callsOrder_run_1_3
  | 4, _ => callsOrder_run_1_4
  | 5, _ => callsOrder_run_1_5
  | 6, _ => callsOrder_run_1_6
  | 7, _ => callsOrder_run_1_7
  | 8, _ => callsOrder_run_1_8
  | n + 9, h => absurd h (by omega)
theorem callsOrder_run_2_0 : callsOrder_ok 2 0 = true := by kernel_rfl
theorem callsOrder_run_2_1 : callsOrder_ok 2 1 = true := by kernel_rfl
theorem callsOrder_run_2_2 : callsOrder_ok 2 2 = true := by kernel_rfl
theorem callsOrder_run_2_3 : callsOrder_ok 2 3 = true := by kernel_rfl
theorem callsOrder_run_2_4 : callsOrder_ok 2 4 = true := by kernel_rfl
theorem callsOrder_run_2_5 : callsOrder_ok 2 5 = true := by kernel_rfl
theorem callsOrder_run_2_6 : callsOrder_ok 2 6 = true := by kernel_rfl
theorem callsOrder_run_2_7 : callsOrder_ok 2 7 = true := by kernel_rfl
theorem callsOrder_run_2_8 : callsOrder_ok 2 8 = true := by kernel_rfl
theorem callsOrder_run_2 : ∀ i1 : Nat, i1 < 9 → callsOrder_ok 2 i1 = true
  | 0, _ => callsOrder_run_2_0
  | 1, _ => callsOrder_run_2_1
  | 2, _ => callsOrder_run_2_2
  | 3, _ => callsOrder_run_2_3
  | 4, _ => callsOrder_run_2_4
  | 5, _ => callsOrder_run_2_5
  | 6, _ => callsOrder_run_2_6
  | 7, _ => callsOrder_run_2_7
  | 8, _ => callsOrder_run_2_8
  | n + 9, h => absurd h (by omega)
theorem callsOrder_run_3_0 : callsOrder_ok 3 0 = true := by kernel_rfl
theorem callsOrder_run_3_1 : callsOrder_ok 3 1 = true := by kernel_rfl
theorem callsOrder_run_3_2 : callsOrder_ok 3 2 = true := by kernel_rfl
theorem callsOrder_run_3_3 : callsOrder_ok 3 3 = true := by kernel_rfl
theorem callsOrder_run_3_4 : callsOrder_ok 3 4 = true := by kernel_rfl
theorem callsOrder_run_3_5 : callsOrder_ok 3 5 = true := by kernel_rfl
theorem callsOrder_run_3_6 : callsOrder_ok 3 6 = true := by kernel_rfl
theorem callsOrder_run_3_7 : callsOrder_ok 3 7 = true := by kernel_rfl
theorem callsOrder_run_3_8 : callsOrder_ok 3 8 = true := by kernel_rfl
theorem callsOrder_run_3 : ∀ i1 : Nat, i1 < 9 → callsOrder_ok 3 i1 = true
  | 0, _ => callsOrder_run_3_0
  | 1, _ => callsOrder_run_3_1
  | 2, _ => callsOrder_run_3_2
  | 3, _ => callsOrder_run_3_3
  | 4, _ => callsOrder_run_3_4
  | 5, _ => callsOrder_run_3_5
  | 6, _ => callsOrder_run_3_6
  | 7, _ => callsOrder_run_3_7
  | 8, _ => callsOrder_run_3_8
  | n + 9, h => absurd h (by omega)
theorem callsOrder_run_4_0 : callsOrder_ok 4 0 = true := by kernel_rfl
theorem callsOrder_run_4_1 : callsOrder_ok 4 1 = true := by kernel_rfl
theorem callsOrder_run_4_2 : callsOrder_ok 4 2 = true := by kernel_rfl
theorem callsOrder_run_4_3 : callsOrder_ok 4 3 = true := by kernel_rfl
theorem callsOrder_run_4_4 : callsOrder_ok 4 4 = true := by kernel_rfl
theorem callsOrder_run_4_5 : callsOrder_ok 4 5 = true := by kernel_rfl
theorem callsOrder_run_4_6 : callsOrder_ok 4 6 = true := by kernel_rfl
theorem callsOrder_run_4_7 : callsOrder_ok 4 7 = true := by kernel_rfl
theorem callsOrder_run_4_8 : callsOrder_ok 4 8 = true := by kernel_rfl
theorem callsOrder_run_4 : ∀ i1 : Nat, i1 < 9 → callsOrder_ok 4 i1 = true
  | 0, _ => callsOrder_run_4_0
  | 1, _ => callsOrder_run_4_1
  | 2, _ => callsOrder_run_4_2
  | 3, _ => callsOrder_run_4_3
  | 4, _ => callsOrder_run_4_4
  | 5, _ => callsOrder_run_4_5
  | 6, _ => callsOrder_run_4_6
  | 7, _ => callsOrder_run_4_7
  | 8, _ => callsOrder_run_4_8
  | n + 9, h => absurd h (by omega)
theorem callsOrder_run_5_0 : callsOrder_ok 5 0 = true := by kernel_rfl
theorem callsOrder_run_5_1 : callsOrder_ok 5 1 = true := by kernel_rfl
theorem callsOrder_run_5_2 : callsOrder_ok 5 2 = true := by kernel_rfl
theorem callsOrder_run_5_3 : callsOrder_ok 5 3 = true := by kernel_rfl
theorem callsOrder_run_5_4 : callsOrder_ok 5 4 = true := by kernel_rfl
theorem callsOrder_run_5_5 : callsOrder_ok 5 5 = true := by kernel_rfl
theorem callsOrder_run_5_6 : callsOrder_ok 5 6 = true := by kernel_rfl
theorem callsOrder_run_5_7 : callsOrder_ok 5 7 = true := by kernel_rfl
theorem callsOrder_run_5_8 : callsOrder_ok 5 8 = true := by kernel_rfl
theorem callsOrder_run_5 : ∀ i1 : Nat, i1 < 9 → callsOrder_ok 5 i1 = true
  | 0, _ => callsOrder_run_5_0
  | 1, _ => callsOrder_run_5_1
  | 2, _ => callsOrder_run_5_2
  | 3, _ => callsOrder_run_5_3
  | 4, _ => callsOrder_run_5_4
  | 5, _ => callsOrder_run_5_5
  | 6, _ => callsOrder_run_5_6
  | 7, _ => callsOrder_run_5_7
  | 8, _ => callsOrder_run_5_8
  | n + 9, h => absurd h (by omega)
theorem callsOrder_run_6_0 : callsOrder_ok 6 0 = true := by kernel_rfl
theorem callsOrder_run_6_1 : callsOrder_ok 6 1 = true := by kernel_rfl
theorem callsOrder_run_6_2 : callsOrder_ok 6 2 = true := by kernel_rfl
theorem callsOrder_run_6_3 : callsOrder_ok 6 3 = true := by kernel_rfl
theorem callsOrder_run_6_4 : callsOrder_ok 6 4 = true := by kernel_rfl
theorem callsOrder_run_6_5 : callsOrder_ok 6 5 = true := by kernel_rfl
theorem callsOrder_run_6_6 : callsOrder_ok 6 6 = true := by kernel_rfl
theorem callsOrder_run_6_7 : callsOrder_ok 6 7 = true := by kernel_rfl
theorem callsOrder_run_6_8 : callsOrder_ok 6 8 = true := by kernel_rfl
theorem callsOrder_run_6 : ∀ i1 : Nat, i1 < 9 → callsOrder_ok 6 i1 = true
  | 0, _ => callsOrder_run_6_0
  | 1, _ => callsOrder_run_6_1
  | 2, _ => callsOrder_run_6_2
  | 3, _ => callsOrder_run_6_3
  | 4, _ => callsOrder_run_6_4
  | 5, _ => callsOrder_run_6_5
  | 6, _ => callsOrder_run_6_6
  | 7, _ => callsOrder_run_6_7
  | 8, _ => callsOrder_run_6_8
  | n + 9, h => absurd h (by omega)
end Go.Proofs.Ytjflbgfmdgbifaa
