/-
  CacheEach's cases, a part.
-/
import Derived.Test.YtalcembgjcekcaaEachD
namespace Go.Proofs.Ytalcembgjcekcaa
open Go.Abs Go
set_option maxHeartbeats 0 in
theorem each_3_1 : EachP 3 1 := by intro n drop h; kernel_rfl
set_option maxHeartbeats 0 in
theorem each_3_2 : EachP 3 2 := by intro n drop h; kernel_rfl
set_option maxHeartbeats 0 in
theorem each_3_3 : EachP 3 3 := by intro n drop h; kernel_rfl
set_option maxHeartbeats 0 in
theorem each_3_4 : EachP 3 4 := by intro n drop h; kernel_rfl
set_option maxHeartbeats 0 in
theorem each_3_5 : EachP 3 5 := by intro n drop h; kernel_rfl
set_option maxHeartbeats 0 in
theorem each_3_6 : EachP 3 6 := by intro n drop h; kernel_rfl
end Go.Proofs.Ytalcembgjcekcaa
