/-
  CacheEach's cases, a part.
-/
import Derived.Test.YtalcembgjcekcaaEachD
namespace Go.Proofs.Ytalcembgjcekcaa
open Go.Abs Go
set_option maxHeartbeats 0 in
theorem each_2_1 : EachP 2 1 := by intro n drop h; kernel_rfl
set_option maxHeartbeats 0 in
theorem each_2_2 : EachP 2 2 := by intro n drop h; kernel_rfl
set_option maxHeartbeats 0 in
theorem each_2_3 : EachP 2 3 := by intro n drop h; kernel_rfl
set_option maxHeartbeats 0 in
theorem each_2_4 : EachP 2 4 := by intro n drop h; kernel_rfl
set_option maxHeartbeats 0 in
theorem each_2_5 : EachP 2 5 := by intro n drop h; kernel_rfl
set_option maxHeartbeats 0 in
theorem each_2_6 : EachP 2 6 := by intro n drop h; kernel_rfl
end Go.Proofs.Ytalcembgjcekcaa
