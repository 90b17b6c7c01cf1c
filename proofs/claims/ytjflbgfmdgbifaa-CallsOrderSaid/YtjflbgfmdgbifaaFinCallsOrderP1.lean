/-
  CallsOrder: cases, each run by the abstract evaluator in the kernel.
-/
import Derived.Test.YtjflbgfmdgbifaaFinCallsOrderD
namespace Go.Proofs.Ytjflbgfmdgbifaa
open Go.Abs
theorem callsOrder_run_7_0 : callsOrder_ok 7 0 = true := by kernel_rfl
theorem callsOrder_run_7_1 : callsOrder_ok 7 1 = true := by kernel_rfl
theorem callsOrder_run_7_2 : callsOrder_ok 7 2 = true := by kernel_rfl
theorem callsOrder_run_7_3 : callsOrder_ok 7 3 = true := by kernel_rfl
theorem callsOrder_run_7_4 : callsOrder_ok 7 4 = true := by kernel_rfl
theorem callsOrder_run_7_5 : callsOrder_ok 7 5 = true := by kernel_rfl
theorem callsOrder_run_7_6 : callsOrder_ok 7 6 = true := by kernel_rfl
theorem callsOrder_run_7_7 : callsOrder_ok 7 7 = true := by kernel_rfl
theorem callsOrder_run_7_8 : callsOrder_ok 7 8 = true := by kernel_rfl
theorem callsOrder_run_7 : ∀ i1 : Nat, i1 < 9 → callsOrder_ok 7 i1 = true
  | 0, _ => callsOrder_run_7_0
  | 1, _ => callsOrder_run_7_1
  | 2, _ => callsOrder_run_7_2
  | 3, _ => callsOrder_run_7_3
  | 4, _ => callsOrder_run_7_4
  | 5, _ => callsOrder_run_7_5
  | 6, _ => callsOrder_run_7_6
  | 7, _ => callsOrder_run_7_7
  | 8, _ => callsOrder_run_7_8
  | n + 9, h => absurd h (by omega)
theorem callsOrder_run_8_0 : callsOrder_ok 8 0 = true := by kernel_rfl
theorem callsOrder_run_8_1 : callsOrder_ok 8 1 = true := by kernel_rfl
theorem callsOrder_run_8_2 : callsOrder_ok 8 2 = true := by kernel_rfl
theorem callsOrder_run_8_3 : callsOrder_ok 8 3 = true := by kernel_rfl
theorem callsOrder_run_8_4 : callsOrder_ok 8 4 = true := by kernel_rfl
theorem callsOrder_run_8_5 : callsOrder_ok 8 5 = true := by kernel_rfl
theorem callsOrder_run_8_6 : callsOrder_ok 8 6 = true := by kernel_rfl
theorem callsOrder_run_8_7 : callsOrder_ok 8 7 = true := by kernel_rfl
theorem callsOrder_run_8_8 : callsOrder_ok 8 8 = true := by kernel_rfl
theorem callsOrder_run_8 : ∀ i1 : Nat, i1 < 9 → callsOrder_ok 8 i1 = true
  | 0, _ => callsOrder_run_8_0
  | 1, _ => callsOrder_run_8_1
  | 2, _ => callsOrder_run_8_2
  | 3, _ => callsOrder_run_8_3
  | 4, _ => callsOrder_run_8_4
  | 5, _ => callsOrder_run_8_5
  | 6, _ => callsOrder_run_8_6
  | 7, _ => callsOrder_run_8_7
  | 8, _ => callsOrder_run_8_8
  | n + 9, h => absurd h (by omega)
theorem callsOrder_run_9_0 : callsOrder_ok 9 0 = true := by kernel_rfl
theorem callsOrder_run_9_1 : callsOrder_ok 9 1 = true := by kernel_rfl
theorem callsOrder_run_9_2 : callsOrder_ok 9 2 = true := by kernel_rfl
theorem callsOrder_run_9_3 : callsOrder_ok 9 3 = true := by kernel_rfl
theorem callsOrder_run_9_4 : callsOrder_ok 9 4 = true := by kernel_rfl
theorem callsOrder_run_9_5 : callsOrder_ok 9 5 = true := by kernel_rfl
theorem callsOrder_run_9_6 : callsOrder_ok 9 6 = true := by kernel_rfl
theorem callsOrder_run_9_7 : callsOrder_ok 9 7 = true := by kernel_rfl
theorem callsOrder_run_9_8 : callsOrder_ok 9 8 = true := by kernel_rfl
theorem callsOrder_run_9 : ∀ i1 : Nat, i1 < 9 → callsOrder_ok 9 i1 = true
  | 0, _ => callsOrder_run_9_0
  | 1, _ => callsOrder_run_9_1
  | 2, _ => callsOrder_run_9_2
  | 3, _ => callsOrder_run_9_3
  | 4, _ => callsOrder_run_9_4
  | 5, _ => callsOrder_run_9_5
  | 6, _ => callsOrder_run_9_6
  | 7, _ => callsOrder_run_9_7
  | 8, _ => callsOrder_run_9_8
  | n + 9, h => absurd h (by omega)
theorem callsOrder_run_10_0 : callsOrder_ok 10 0 = true := by kernel_rfl
theorem callsOrder_run_10_1 : callsOrder_ok 10 1 = true := by kernel_rfl
theorem callsOrder_run_10_2 : callsOrder_ok 10 2 = true := by kernel_rfl
theorem callsOrder_run_10_3 : callsOrder_ok 10 3 = true := by kernel_rfl
theorem callsOrder_run_10_4 : callsOrder_ok 10 4 = true := by kernel_rfl
theorem callsOrder_run_10_5 : callsOrder_ok 10 5 = true := by kernel_rfl
theorem callsOrder_run_10_6 : callsOrder_ok 10 6 = true := by kernel_rfl
theorem callsOrder_run_10_7 : callsOrder_ok 10 7 = true := by kernel_rfl
theorem callsOrder_run_10_8 : callsOrder_ok 10 8 = true := by kernel_rfl
theorem callsOrder_run_10 : ∀ i1 : Nat, i1 < 9 → callsOrder_ok 10 i1 = true
  | 0, _ => callsOrder_run_10_0
  | 1, _ => callsOrder_run_10_1
  | 2, _ => callsOrder_run_10_2
  | 3, _ => callsOrder_run_10_3
  | 4, _ => callsOrder_run_10_4
  | 5, _ => callsOrder_run_10_5
  | 6, _ => callsOrder_run_10_6
  | 7, _ => callsOrder_run_10_7
  | 8, _ => callsOrder_run_10_8
  | n + 9, h => absurd h (by omega)
theorem callsOrder_run_11_0 : callsOrder_ok 11 0 = true := by kernel_rfl
theorem callsOrder_run_11_1 : callsOrder_ok 11 1 = true := by kernel_rfl
theorem callsOrder_run_11_2 : callsOrder_ok 11 2 = true := by kernel_rfl
theorem callsOrder_run_11_3 : callsOrder_ok 11 3 = true := by kernel_rfl
theorem callsOrder_run_11_4 : callsOrder_ok 11 4 = true := by kernel_rfl
theorem callsOrder_run_11_5 : callsOrder_ok 11 5 = true := by kernel_rfl
theorem callsOrder_run_11_6 : callsOrder_ok 11 6 = true := by kernel_rfl
theorem callsOrder_run_11_7 : callsOrder_ok 11 7 = true := by kernel_rfl
theorem callsOrder_run_11_8 : callsOrder_ok 11 8 = true := by kernel_rfl
theorem callsOrder_run_11 : ∀ i1 : Nat, i1 < 9 → callsOrder_ok 11 i1 = true
  | 0, _ => callsOrder_run_11_0
  | 1, _ => callsOrder_run_11_1
  | 2, _ => callsOrder_run_11_2
  | 3, _ => callsOrder_run_11_3
  | 4, _ => callsOrder_run_11_4
  | 5, _ => callsOrder_run_11_5
  | 6, _ => callsOrder_run_11_6
  | 7, _ => callsOrder_run_11_7
  | 8, _ => callsOrder_run_11_8
  | n + 9, h => absurd h (by omega)
theorem callsOrder_run_12_0 : callsOrder_ok 12 0 = true := by kernel_rfl
theorem callsOrder_run_12_1 : callsOrder_ok 12 1 = true := by kernel_rfl
theorem callsOrder_run_12_2 : callsOrder_ok 12 2 = true := by kernel_rfl
theorem callsOrder_run_12_3 : callsOrder_ok 12 3 = true := by kernel_rfl
theorem callsOrder_run_12_4 : callsOrder_ok 12 4 = true := by kernel_rfl
theorem callsOrder_run_12_5 : callsOrder_ok 12 5 = true := by kernel_rfl
theorem callsOrder_run_12_6 : callsOrder_ok 12 6 = true := by kernel_rfl
theorem callsOrder_run_12_7 : callsOrder_ok 12 7 = true := by kernel_rfl
theorem callsOrder_run_12_8 : callsOrder_ok 12 8 = true := by kernel_rfl
theorem callsOrder_run_12 : ∀ i1 : Nat, i1 < 9 → callsOrder_ok 12 i1 = true
  | 0, _ => callsOrder_run_12_0
  | 1, _ => callsOrder_run_12_1
  | 2, _ => callsOrder_run_12_2
  | 3, _ => callsOrder_run_12_3
  | 4, _ => callsOrder_run_12_4
  | 5, _ => callsOrder_run_12_5
  | 6, _ => callsOrder_run_12_6
  | 7, _ => callsOrder_run_12_7
  | 8, _ => callsOrder_run_12_8
  | n + 9, h => absurd h (by omega)
end Go.Proofs.Ytjflbgfmdgbifaa
