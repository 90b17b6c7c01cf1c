/-
  CacheEach's cases, a part.
-/
import Derived.Test.YtalcembgjcekcaaEachD
namespace Go.Proofs.Ytalcembgjcekcaa
open Go.Abs Go
set_option maxHeartbeats 0 in
theorem each_1_1 : EachP 1 1 := by intro n drop h; kernel_rfl
set_option maxHeartbeats 0 in
theorem each_1_2 : EachP 1 2 := by intro n drop h; kernel_rfl
set_option maxHeartbeats 0 in
theorem each_1_3 : EachP 1 3 := by intro n drop h; kernel_rfl
set_option maxHeartbeats 0 in
theorem each_1_4 : EachP 1 4 := by intro n drop h; kernel_rfl
set_option maxHeartbeats 0 in
theorem each_1_5 : EachP 1 5 := by intro n drop h; kernel_rfl
set_option maxHeartbeats 0 in
theorem each_1_6 : EachP 1 6 := by intro n drop h; kernel_rfl
end Go.Proofs.Ytalcembgjcekcaa
