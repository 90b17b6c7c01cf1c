/-
  CacheEach's cases, a part.
-/
import Derived.Test.YtalcembgjcekcaaEachD
namespace Go.Proofs.Ytalcembgjcekcaa
open Go.Abs Go
set_option maxHeartbeats 0 in
theorem each_6_1 : EachP 6 1 := by intro n drop h; kernel_rfl
set_option maxHeartbeats 0 in
theorem each_6_2 : EachP 6 2 := by intro n drop h; kernel_rfl
set_option maxHeartbeats 0 in
theorem each_6_3 : EachP 6 3 := by intro n drop h; kernel_rfl
set_option maxHeartbeats 0 in
theorem each_6_4 : EachP 6 4 := by intro n drop h; kernel_rfl
set_option maxHeartbeats 0 in
theorem each_6_5 : EachP 6 5 := by intro n drop h; kernel_rfl
set_option maxHeartbeats 0 in
theorem each_6_6 : EachP 6 6 := by intro n drop h; kernel_rfl
end Go.Proofs.Ytalcembgjcekcaa
