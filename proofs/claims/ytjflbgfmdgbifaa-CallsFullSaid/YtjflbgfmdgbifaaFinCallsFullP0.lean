/-
  CallsFull: cases, each run by the abstract evaluator in the kernel.
-/
import Derived.Test.YtjflbgfmdgbifaaFinCallsFullD
namespace Go.Proofs.Ytjflbgfmdgbifaa
open Go.Abs
theorem callsFull_run_0 : callsFull_ok 0 = true := by kernel_rfl
theorem callsFull_run_1 : callsFull_ok 1 = true := by kernel_rfl
theorem callsFull_run_2 : callsFull_ok 2 = true := by kernel_rfl
theorem callsFull_run_3 : callsFull_ok 3 = true := by kernel_rfl
theorem callsFull_run_4 : callsFull_ok 4 = true := by kernel_rfl
theorem callsFull_run_5 : callsFull_ok 5 = true := by kernel_rfl
theorem callsFull_run_6 : callsFull_ok 6 = true := by kernel_rfl
theorem callsFull_run_7 : callsFull_ok 7 = true := by kernel_rfl
theorem callsFull_run_8 : callsFull_ok 8 = true := by kernel_rfl
theorem callsFull_run_9 : callsFull_ok 9 = true := by kernel_rfl
theorem callsFull_run_10 : callsFull_ok 10 = true := by kernel_rfl
theorem callsFull_run_11 : callsFull_ok 11 = true := by kernel_rfl
theorem callsFull_run_12 : callsFull_ok 12 = true := by kernel_rfl
end Go.Proofs.Ytjflbgfmdgbifaa
