/-
  CallsFull: cases, each run by the abstract evaluator in the kernel.
-/
import Derived.Test.YtjflbgfmdgbifaaFinCallsFullD
namespace Go.Proofs.Ytjflbgfmdgbifaa
open Go.Abs
theorem callsFull_run_13 : callsFull_ok 13 = true := by kernel_rfl
theorem callsFull_run_14 : callsFull_ok 14 = true := by kernel_rfl
theorem callsFull_run_15 : callsFull_ok 15 = true := by kernel_rfl
theorem callsFull_run_16 : callsFull_ok 16 = true := by kernel_rfl
theorem callsFull_run_17 : callsFull_ok 17 = true := by kernel_rfl
theorem callsFull_run_18 : callsFull_ok 18 = true := by kernel_rfl
theorem callsFull_run_19 : callsFull_ok 19 = true := by kernel_rfl
theorem callsFull_run_20 : callsFull_ok 20 = true := by kernel_rfl
end Go.Proofs.Ytjflbgfmdgbifaa
